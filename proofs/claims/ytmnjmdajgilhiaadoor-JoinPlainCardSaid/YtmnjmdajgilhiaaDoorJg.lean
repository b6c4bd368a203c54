/- The walks of both Until, and of identity's Members, over abstract values. Condition: sizes. -/
import Derived.Test.YtmnjmdajgilhiaaDoorJf
set_option linter.unusedVariables false
set_option linter.unusedSimpArgs false
namespace Go.Proofs.YtmnjmdajgilhiaaDoor.Cl
open Go Go.RowKit Go.Proofs Go.Proofs.YtmnjmdajgilhiaaDoor.Vc Go.Proofs.YtmnjmdajgilhiaaDoor.Ax Go.Proofs.YtmnjmdajgilhiaaDoor.Id
attribute [local irreducible] loadVar storeVar Instr.indexAt Instr.index Instr.sliceAt Instr.makeSlice Instr.lookup Instr.mapUpdate Instr.range Instr.next Instr.entry Instr.makeMap Builtin.append_ Builtin.copy_ Builtin.len_ Builtin.min_ Builtin.max_ Builtin.cap_ Builtin.delete_ Builtin.clear_ convert binOp eqGuard Op.unary Calls
section
variable {G : Glob}
set_option maxHeartbeats 4000000 in
set_option maxRecDepth 100000 in
theorem until1A (ls : List Lk) (t : Int) (hln : ls.length ≤ 1000000) : AFn Tryd.prog G 59 [lksA ls, iv t] 0 [] (Own1 84 3 ((unt t ls).map lkF)) := by
  refine afn_of Tryd.func59 rfl mixed (by kernel_rfl) ?_
  conv => whnf
  refine aloop ws59_1 1 [10, 5] (fun k : Nat => [(10, iv k), (5, .own 0)]) (fun k => [(0, .rows 84 3 ((unt t (ls.take k)).map lkF))]) (fun k => k ≤ ls.length) (fun k => ls.length - k) [(0, .nil)] [] 0 (by kernel_rfl) (fun _ => rfl) rfl (Nat.zero_le _) ⟨rfl, trivial⟩ (by repeat' (first | rfl | trivial | apply And.intro)) ?_
  rintro k hk
  conv => whnf
  refine vif_split (fun hlt => ?_) (fun hge => ?_)
  · have hlt : k < ls.length := by simpa using hlt
    have hun : (unt t (ls.take k)).length ≤ ls.length := by
      have h1 := List.length_filter_le (fun x : Lk => decide (x.t ≤ t)) (ls.take k)
      have h2 : unt t (ls.take k) = (ls.take k).filter fun x => decide (x.t ≤ t) := rfl
      rw [← h2, List.length_take] at h1; omega
    conv => whnf
    (repeat' (first | (refine And.intro ?_ ?_ <;> (conv => whnf)) | (refine vif_split (fun h => ?_) (fun h => ?_) <;> (try simp only [bl] at h) <;> (conv => whnf)) | (refine AAr.i64 (by first | omega | ((try simp only [List.length_map] at *); omega)) ?_; conv => whnf) | (refine AIn.mk' _ rfl (by first | omega | (simp only [ln]; omega) | (simp only [ln] at *; omega)) ?_; conv => whnf) | (refine ARd.mapAt (by assumption) ?_; conv => whnf) | (refine ARd.set (by (try simp only [ln] at *); omega) ?_; conv => whnf) | (refine ARd.map (by first | omega | (simp only [List.length_map] at *; omega)) ?_; conv => whnf) | (refine VReq.mk (by first | decide | omega) ?_; conv => whnf) | (refine AEq.mk (by kernel_rfl) rfl rfl ?_; conv => whnf) | (refine VReq.mk (app_ok (by (try simp only [ln] at *); omega) (by kernel_rfl)) ?_; conv => whnf)))
    · have e : unt t (ls.take (k + 1)) = unt t (ls.take k) ++ [ls[k]] := by rw [List.take_succ_eq_append_getElem hlt, unt_snoc, if_pos h]
      refine aback (k + 1) [(0, .lab 3)] [] rfl ?_ hlt ?_ (by repeat' (first | rfl | trivial | apply And.intro))
      · show ls.length - (k + 1) < ls.length - k; omega
      · refine ⟨⟨rfl, rfl, ?_⟩, trivial⟩
        rw [e, List.map_append]; rfl
    · have e : unt t (ls.take (k + 1)) = unt t (ls.take k) := by rw [List.take_succ_eq_append_getElem hlt, unt_snoc, if_neg (by omega)]
      refine aback (k + 1) [(0, .lab 0)] [] rfl ?_ hlt ?_ (by repeat' (first | rfl | trivial | apply And.intro))
      · show ls.length - (k + 1) < ls.length - k; omega
      · refine ⟨⟨rfl, rfl, ?_⟩, trivial⟩
        rw [e]
  · have : k = ls.length := by simp at hge; omega
    subst this
    conv => whnf
    rw [List.take_length]
    exact aend (.own 0) 1 _ [(0, .lab 0)] [] ⟨rfl, rfl, rfl⟩ rfl (by repeat' (first | rfl | trivial | apply And.intro)) (by repeat' (first | rfl | trivial | apply And.intro))
set_option maxHeartbeats 4000000 in
set_option maxRecDepth 100000 in
theorem until2A (ls : List Lk) (t : Int) (hln : ls.length ≤ 1000000) : AFn Tryd.prog G 28 [lksA ls, iv t] 0 [] (Own1 84 3 ((unt t ls).map lkF)) := by
  refine afn_of Tryd.func28 rfl mixed (by kernel_rfl) ?_
  conv => whnf
  refine aloop ws28_1 1 [6, 5] (fun k : Nat => [(6, iv k), (5, .own 0)]) (fun k => [(0, .rows 84 3 ((unt t (ls.take k)).map lkF))]) (fun k => k ≤ ls.length) (fun k => ls.length - k) [(0, .nil)] [] 0 (by kernel_rfl) (fun _ => rfl) rfl (Nat.zero_le _) ⟨rfl, trivial⟩ (by repeat' (first | rfl | trivial | apply And.intro)) ?_
  rintro k hk
  conv => whnf
  refine vif_split (fun hlt => ?_) (fun hge => ?_)
  · have hlt : k < ls.length := by simpa using hlt
    have hun : (unt t (ls.take k)).length ≤ ls.length := by
      have h1 := List.length_filter_le (fun x : Lk => decide (x.t ≤ t)) (ls.take k)
      have h2 : unt t (ls.take k) = (ls.take k).filter fun x => decide (x.t ≤ t) := rfl
      rw [← h2, List.length_take] at h1; omega
    conv => whnf
    (repeat' (first | (refine And.intro ?_ ?_ <;> (conv => whnf)) | (refine vif_split (fun h => ?_) (fun h => ?_) <;> (try simp only [bl] at h) <;> (conv => whnf)) | (refine AAr.i64 (by first | omega | ((try simp only [List.length_map] at *); omega)) ?_; conv => whnf) | (refine AIn.mk' _ rfl (by first | omega | (simp only [ln]; omega) | (simp only [ln] at *; omega)) ?_; conv => whnf) | (refine ARd.mapAt (by assumption) ?_; conv => whnf) | (refine ARd.set (by (try simp only [ln] at *); omega) ?_; conv => whnf) | (refine ARd.map (by first | omega | (simp only [List.length_map] at *; omega)) ?_; conv => whnf) | (refine VReq.mk (by first | decide | omega) ?_; conv => whnf) | (refine AEq.mk (by kernel_rfl) rfl rfl ?_; conv => whnf) | (refine VReq.mk (app_ok (by (try simp only [ln] at *); omega) (by kernel_rfl)) ?_; conv => whnf)))
    · have e : unt t (ls.take (k + 1)) = unt t (ls.take k) ++ [ls[k]] := by rw [List.take_succ_eq_append_getElem hlt, unt_snoc, if_pos h]
      refine aback (k + 1) [(0, .lab 2)] [] rfl ?_ hlt ?_ (by repeat' (first | rfl | trivial | apply And.intro))
      · show ls.length - (k + 1) < ls.length - k; omega
      · refine ⟨⟨rfl, rfl, ?_⟩, trivial⟩
        rw [e, List.map_append]; rfl
    · have e : unt t (ls.take (k + 1)) = unt t (ls.take k) := by rw [List.take_succ_eq_append_getElem hlt, unt_snoc, if_neg (by omega)]
      refine aback (k + 1) [(0, .lab 0)] [] rfl ?_ hlt ?_ (by repeat' (first | rfl | trivial | apply And.intro))
      · show ls.length - (k + 1) < ls.length - k; omega
      · refine ⟨⟨rfl, rfl, ?_⟩, trivial⟩
        rw [e]
  · have : k = ls.length := by simp at hge; omega
    subst this
    conv => whnf
    rw [List.take_length]
    exact aend (.own 0) 1 _ [(0, .lab 0)] [] ⟨rfl, rfl, rfl⟩ rfl (by repeat' (first | rfl | trivial | apply And.intro)) (by repeat' (first | rfl | trivial | apply And.intro))
/-- the ids that belong together with an id, from the links' ids up to a place -/
def mbsL (R : ByteArray → ByteArray) (id : ByteArray) (l : List ByteArray) : Tx := ab id :: (l.filter fun x => decide (R x = R id)).map ab
theorem mbsL_snoc (R : ByteArray → ByteArray) (id : ByteArray) (l : List ByteArray) (x : ByteArray) : mbsL R id (l ++ [x]) = if R x = R id then mbsL R id l ++ [ab x] else mbsL R id l := by
  unfold mbsL
  rw [List.filter_append]
  by_cases h : R x = R id
  · simp [h]
  · simp [h]
theorem idsL_len (l : List Lk) : (idsL l).length = 2 * l.length := by
  unfold idsL
  induction l with
  | nil => rfl
  | cons k r ih => rw [List.flatMap_cons, List.length_append, ih]; simp; omega
theorem idsL_at (l : List Lk) : ∀ (i : Nat) (h : i < l.length), (idsL l)[2 * i]? = some l[i].a ∧ (idsL l)[2 * i + 1]? = some l[i].b := by
  induction l with
  | nil => intro i h; cases h
  | cons k r ih =>
    intro i h
    cases i with
    | zero => exact ⟨rfl, rfl⟩
    | succ i =>
      have := ih i (by simpa using h)
      have e : idsL (k :: r) = k.a :: k.b :: idsL r := rfl
      rw [e, show 2 * (i + 1) = 2 * i + 1 + 1 by omega]
      simpa using this
theorem enT_ab (x : ByteArray) : enT (ab x) = [FV.v (.string x)] := by
  have := ba_ab x
  unfold enT
  rw [show (⟨(ab x).toArray⟩ : ByteArray) = x from this]
theorem take_at {α : Type} {l : List α} {n : Nat} {x : α} (h : l[n]? = some x) : l.take (n + 1) = l.take n ++ [x] := by rw [List.take_add_one, h]; rfl
set_option maxHeartbeats 8000000 in
set_option maxRecDepth 100000 in
theorem membersA (ls : List Lk) (id : ByteArray) (hl : ls.length ≤ 100000) : AFn Tryd.prog G 60 [lksA ls, sv id] 0 [] (Is (tl (dsT (mbsL (rt ls) id (idsL ls))))) := by
  refine afn_of Tryd.func60 rfl mixed (by kernel_rfl) ?_
  conv => whnf
  (refine acallF [] (by kernel_rfl) (iofA ls (by omega)) ?_ ?_; (focus (repeat' (first | rfl | trivial | apply And.intro))))
  rintro _ _ _ ⟨F, d, rfl, rfl, rfl, hf⟩
  conv => whnf
  refine acallM [0] [] (by kernel_rfl) (frootA hf id) rfl (by repeat' (first | rfl | trivial | apply And.intro)) (by repeat' (first | rfl | trivial | apply And.intro)) ?_
  rintro _ _ _ ⟨rfl, rfl, rfl⟩
  refine ⟨rfl, ?_⟩
  conv => whnf
  have hil := idsL_len ls
  have hlen : ∀ k, (mbsL (rt ls) id ((idsL ls).take k)).length ≤ 1 + 2 * ls.length := fun k => by
    unfold mbsL
    have := List.length_filter_le (fun x => decide (rt ls x = rt ls id)) ((idsL ls).take k)
    rw [List.length_take] at this
    simp only [List.length_cons, List.length_map]
    omega
  refine aloop ws60_1 3 [7, 21] (fun i : Nat => [(7, .own 2), (21, iv i)]) (fun i => [(2, .rows 9 1 ((mbsL (rt ls) id ((idsL ls).take (2 * i))).map enT)), (0, mF F)]) (fun i => i ≤ ls.length) (fun i => ls.length - i) [(2, .lab 1)] [] 0 (by kernel_rfl) (fun _ => rfl) rfl (Nat.zero_le _) ⟨⟨rfl, rfl, ?_⟩, (by repeat' (first | rfl | trivial | apply And.intro)), trivial⟩ (by repeat' (first | rfl | trivial | apply And.intro)) ?_
  · show _ = (mbsL (rt ls) id ((idsL ls).take 0)).map enT
    rw [List.take_zero]
    show _ = [enT (ab id)]
    rw [enT_ab]
  intro i hi
  conv => whnf
  refine vif_split (fun h => ?_) (fun h => ?_)
  · have hlt : i < ls.length := by simp at h; omega
    have hat := idsL_at ls i hlt
    conv => whnf
    refine AIn.mk' i rfl (by rw [List.length_map]; exact hlt) ?_
    conv => whnf
    refine ARd.mapAt (List.getElem?_eq_getElem hlt) ?_
    conv => whnf
    generalize ls[i] = k at *
    refine aloop ws60_2 6 [7, 31] (fun j : Nat => [(7, .own 5), (31, iv j)]) (fun j => [(5, .rows 9 1 ((mbsL (rt ls) id ((idsL ls).take (2 * i + j))).map enT)), (4, .rows 9 1 [[.v (.string k.a)], [.v (.string k.b)]]), (0, mF F)]) (fun j => j ≤ 2) (fun j => 2 - j) [(5, .lab 2)] [] 0 (by kernel_rfl) (fun _ => rfl) rfl (Nat.zero_le _) ⟨(by repeat' (first | rfl | trivial | apply And.intro)), (by repeat' (first | rfl | trivial | apply And.intro)), (by repeat' (first | rfl | trivial | apply And.intro)), trivial⟩ (by repeat' (first | rfl | trivial | apply And.intro)) ?_
    intro j hj
    have hj3 : j = 0 ∨ j = 1 ∨ j = 2 := by omega
    rcases hj3 with rfl | rfl | rfl
    · conv => whnf
      have htk : (idsL ls).take (2 * i + 0 + 1) = (idsL ls).take (2 * i + 0) ++ [k.a] := take_at hat.1
      have hmb := mbsL_snoc (rt ls) id ((idsL ls).take (2 * i + 0)) k.a
      have hln := hlen (2 * i + 0)
      rw [← htk] at hmb
      refine AIn.mk' 0 rfl (show 0 < 2 by decide) ?_
      conv => whnf
      refine ARd.at rfl ?_
      conv => whnf
      refine acallM [0] [] (by kernel_rfl) (frootA hf k.a) rfl (by repeat' (first | rfl | trivial | apply And.intro)) (by repeat' (first | rfl | trivial | apply And.intro)) ?_
      rintro _ _ _ ⟨rfl, rfl, rfl⟩
      refine ⟨rfl, ?_⟩
      conv => whnf
      refine vif_split (fun h => ?_) (fun h => ?_)
      · rw [if_pos ((sEq_iff _ _).1 h)] at hmb
        conv => whnf
        refine VReq.mk (app_ok (by simp only [List.length_map, List.length_cons, List.length_nil]; omega) (by kernel_rfl)) ?_
        conv => whnf
        refine AAr.i64 (by omega) ?_
        conv => whnf
        refine aback (0 + 1) [(5, .lab 7)] [] rfl (by show 2 - (0 + 1) < 2 - 0; decide) (by decide) ⟨⟨rfl, rfl, ?_⟩, (by repeat' (first | rfl | trivial | apply And.intro)), (by repeat' (first | rfl | trivial | apply And.intro)), trivial⟩ (by repeat' (first | rfl | trivial | apply And.intro))
        show _ = (mbsL (rt ls) id ((idsL ls).take (2 * i + 0 + 1))).map enT
        rw [hmb, List.map_append, List.map_singleton, enT_ab]
      · rw [if_neg (fun e => by rw [(sEq_iff _ _).2 e] at h; cases h)] at hmb
        conv => whnf
        refine AAr.i64 (by omega) ?_
        conv => whnf
        refine aback (0 + 1) [(5, .lab 5)] [] rfl (by show 2 - (0 + 1) < 2 - 0; decide) (by decide) ⟨⟨rfl, rfl, ?_⟩, (by repeat' (first | rfl | trivial | apply And.intro)), (by repeat' (first | rfl | trivial | apply And.intro)), trivial⟩ (by repeat' (first | rfl | trivial | apply And.intro))
        show _ = (mbsL (rt ls) id ((idsL ls).take (2 * i + 0 + 1))).map enT
        rw [hmb]
    · conv => whnf
      have htk : (idsL ls).take (2 * i + 1 + 1) = (idsL ls).take (2 * i + 1) ++ [k.b] := take_at hat.2
      have hmb := mbsL_snoc (rt ls) id ((idsL ls).take (2 * i + 1)) k.b
      have hln := hlen (2 * i + 1)
      rw [← htk] at hmb
      refine AIn.mk' 1 rfl (show 1 < 2 by decide) ?_
      conv => whnf
      refine ARd.at rfl ?_
      conv => whnf
      refine acallM [0] [] (by kernel_rfl) (frootA hf k.b) rfl (by repeat' (first | rfl | trivial | apply And.intro)) (by repeat' (first | rfl | trivial | apply And.intro)) ?_
      rintro _ _ _ ⟨rfl, rfl, rfl⟩
      refine ⟨rfl, ?_⟩
      conv => whnf
      refine vif_split (fun h => ?_) (fun h => ?_)
      · rw [if_pos ((sEq_iff _ _).1 h)] at hmb
        conv => whnf
        refine VReq.mk (app_ok (by simp only [List.length_map, List.length_cons, List.length_nil]; omega) (by kernel_rfl)) ?_
        conv => whnf
        refine AAr.i64 (by omega) ?_
        conv => whnf
        refine aback (1 + 1) [(5, .lab 7)] [] rfl (by show 2 - (1 + 1) < 2 - 1; decide) (by decide) ⟨⟨rfl, rfl, ?_⟩, (by repeat' (first | rfl | trivial | apply And.intro)), (by repeat' (first | rfl | trivial | apply And.intro)), trivial⟩ (by repeat' (first | rfl | trivial | apply And.intro))
        show _ = (mbsL (rt ls) id ((idsL ls).take (2 * i + 1 + 1))).map enT
        rw [hmb, List.map_append, List.map_singleton, enT_ab]
      · rw [if_neg (fun e => by rw [(sEq_iff _ _).2 e] at h; cases h)] at hmb
        conv => whnf
        refine AAr.i64 (by omega) ?_
        conv => whnf
        refine aback (1 + 1) [(5, .lab 5)] [] rfl (by show 2 - (1 + 1) < 2 - 1; decide) (by decide) ⟨⟨rfl, rfl, ?_⟩, (by repeat' (first | rfl | trivial | apply And.intro)), (by repeat' (first | rfl | trivial | apply And.intro)), trivial⟩ (by repeat' (first | rfl | trivial | apply And.intro))
        show _ = (mbsL (rt ls) id ((idsL ls).take (2 * i + 1 + 1))).map enT
        rw [hmb]
    · conv => whnf
      refine AAr.i64 (by omega) ?_
      conv => whnf
      exact aback (i + 1) [(2, .lab 5)] [] rfl (by show ls.length - (i + 1) < ls.length - i; omega) hlt ⟨⟨rfl, rfl, by rw [show 2 * (i + 1) = 2 * i + 2 by omega]⟩, (by repeat' (first | rfl | trivial | apply And.intro)), trivial⟩ (by repeat' (first | rfl | trivial | apply And.intro))
  · have hie : i = ls.length := by simp at h; omega
    subst hie
    have hL := hlen (2 * ls.length)
    rw [show (idsL ls).take (2 * ls.length) = idsL ls from List.take_of_length_le (by omega)] at hL ⊢
    have hne : mbsL (rt ls) id (idsL ls) ≠ [] := by simp [mbsL]
    generalize mbsL (rt ls) id (idsL ls) = L at *
    conv => whnf
    refine acallM [2] [] (by kernel_rfl) (sortTA L hne (by omega)) rfl (by repeat' (first | rfl | trivial | apply And.intro)) (by repeat' (first | rfl | trivial | apply And.intro)) ?_
    rintro _ _ _ ⟨rfl, rfl, rfl⟩
    refine ⟨rfl, ?_⟩
    conv => whnf
    refine acallM [2] [] (by kernel_rfl) (compactTA L hne (by omega)) rfl (by repeat' (first | rfl | trivial | apply And.intro)) (by repeat' (first | rfl | trivial | apply And.intro)) ?_
    rintro _ _ _ ⟨rfl, rfl, rfl⟩
    refine ⟨rfl, ?_⟩
    conv => whnf
    exact aend (tl (dsT L)) 0 [] [] [2] ⟨rfl, rfl, rfl⟩ rfl trivial ⟨rfl, rfl, take_dsT _ _⟩
end
end Go.Proofs.YtmnjmdajgilhiaaDoor.Cl

/- Joined parts of the proof. The walks of both Until, and of identity's Members, over abstract values -/
import Derived.Test.YtgfgndaoocfpdaaGreatDoorPk12
import Derived.Test.YtgfgndaoocfpdaaGreatDoorPk8
import Derived.Test.YtgfgndaoocfpdaaGreatDoorPk11
import Derived.Test.YtgfgndaoocfpdaaGreatDoorPk10
set_option linter.unusedVariables false
set_option linter.unusedSimpArgs false
set_option maxRecDepth 100000
set_option maxHeartbeats 16000000
namespace Go.Proofs.YtgfgndaoocfpdaaGreatDoor.Cl
open Go Go.RowKit Go.Proofs Go.Proofs.YtgfgndaoocfpdaaGreatDoor.Vc Go.Proofs.YtgfgndaoocfpdaaGreatDoor.Ax Go.Proofs.YtgfgndaoocfpdaaGreatDoor.Id
attribute [local irreducible] loadVar storeVar Instr.indexAt Instr.index Instr.sliceAt Instr.makeSlice Instr.lookup Instr.mapUpdate Instr.range Instr.next Instr.entry Instr.makeMap Builtin.append_ Builtin.copy_ Builtin.len_ Builtin.min_ Builtin.max_ Builtin.cap_ Builtin.delete_ Builtin.clear_ convert binOp eqGuard Op.unary Calls
section
variable {G : Glob}
theorem until1A (ls : List Lk) (t : Int) (hln : ls.length ≤ 1000000) : AFn Tryz.prog G 106 [lksA ls, iv t] 0 [] (Own1 135 3 ((unt t ls).map lkF)) := by
 refine afn_of Tryz.func106 rfl mixed (by kernel_rfl) ?_
 conv=>whnf
 refine aloop ws106_1 1 [10, 5] (fun k : Nat => [(10, iv k), (5, .own 0)]) (fun k => [(0, .rows 135 3 ((unt t (ls.take k)).map lkF))]) (fun k => k ≤ ls.length) (fun k => ls.length - k) [(0, .nil)] [] 0 (by kernel_rfl) (fun _ => rfl) rfl (Nat.zero_le _) ⟨rfl, trivial⟩ (by trivial) ?_
 rintro k hk
 conv=>whnf
 refine vif_split (fun hlt => ?_) (fun hge => ?_)
 ·have hlt : k < ls.length := by simpa using hlt
  have hun : (unt t (ls.take k)).length ≤ ls.length := by
   have h1 := List.length_filter_le (fun x : Lk => decide (x.t ≤ t)) (ls.take k)
   have h2 : unt t (ls.take k) = (ls.take k).filter fun x => decide (x.t ≤ t) := rfl
   rw [← h2, List.length_take] at h1; omega
  conv=>whnf
  (repeat' ((first | refine And.intro ?_ ?_ | (apply vif_split <;> intro h <;> try simp only [bl] at h) | refine AAr.i64 (by first | omega | ((try simp only [List.length_map] at *); omega)) ?_ | refine AIn.mk' _ rfl (by first | omega | (simp only [ln]; omega) | (simp only [ln] at *; omega)) ?_ | refine ARd.mapAt (by assumption) ?_ | refine ARd.set (by (try simp only [ln] at *); omega) ?_ | refine ARd.map (by first | omega | (simp only [List.length_map] at *; omega)) ?_ | refine VReq.mk (by first | decide | omega) ?_ | refine AEq.mk (by kernel_rfl) rfl rfl ?_ | refine VReq.mk (app_ok (by (try simp only [ln] at *); omega) (by kernel_rfl)) ?_) <;> conv=>whnf))
  ·have e : unt t (ls.take (k + 1)) = unt t (ls.take k) ++ [ls[k]] := by rw [List.take_succ_eq_append_getElem hlt, unt_snoc, if_pos h]
   refine aback (k + 1) [(0, .lab 3)] [] rfl ?_ hlt ?_ (by trivial)
   ·show ls.length - (k + 1) < ls.length - k; omega
   ·refine ⟨⟨rfl, rfl, ?_⟩, trivial⟩
    rw [e, List.map_append]; rfl
  ·have e : unt t (ls.take (k + 1)) = unt t (ls.take k) := by rw [List.take_succ_eq_append_getElem hlt, unt_snoc, if_neg (by omega)]
   refine aback (k + 1) [(0, .lab 0)] [] rfl ?_ hlt ?_ (by trivial)
   ·show ls.length - (k + 1) < ls.length - k; omega
   ·refine ⟨⟨rfl, rfl, ?_⟩, trivial⟩
    rw [e]
 ·have : k = ls.length := by simp at hge; omega
  subst this
  conv=>whnf
  rw [List.take_length]
  exact aend (.own 0) 1 _ [(0, .lab 0)] [] ⟨rfl, rfl, rfl⟩ rfl (by trivial) (by trivial)
theorem until2A (ls : List Lk) (t : Int) (hln : ls.length ≤ 1000000) : AFn Tryz.prog G 49 [lksA ls, iv t] 0 [] (Own1 135 3 ((unt t ls).map lkF)) := by
 refine afn_of Tryz.func49 rfl mixed (by kernel_rfl) ?_
 conv=>whnf
 refine aloop ws49_1 1 [6, 5] (fun k : Nat => [(6, iv k), (5, .own 0)]) (fun k => [(0, .rows 135 3 ((unt t (ls.take k)).map lkF))]) (fun k => k ≤ ls.length) (fun k => ls.length - k) [(0, .nil)] [] 0 (by kernel_rfl) (fun _ => rfl) rfl (Nat.zero_le _) ⟨rfl, trivial⟩ (by trivial) ?_
 rintro k hk
 conv=>whnf
 refine vif_split (fun hlt => ?_) (fun hge => ?_)
 ·have hlt : k < ls.length := by simpa using hlt
  have hun : (unt t (ls.take k)).length ≤ ls.length := by
   have h1 := List.length_filter_le (fun x : Lk => decide (x.t ≤ t)) (ls.take k)
   have h2 : unt t (ls.take k) = (ls.take k).filter fun x => decide (x.t ≤ t) := rfl
   rw [← h2, List.length_take] at h1; omega
  conv=>whnf
  (repeat' ((first | refine And.intro ?_ ?_ | (apply vif_split <;> intro h <;> try simp only [bl] at h) | refine AAr.i64 (by first | omega | ((try simp only [List.length_map] at *); omega)) ?_ | refine AIn.mk' _ rfl (by first | omega | (simp only [ln]; omega) | (simp only [ln] at *; omega)) ?_ | refine ARd.mapAt (by assumption) ?_ | refine ARd.set (by (try simp only [ln] at *); omega) ?_ | refine ARd.map (by first | omega | (simp only [List.length_map] at *; omega)) ?_ | refine VReq.mk (by first | decide | omega) ?_ | refine AEq.mk (by kernel_rfl) rfl rfl ?_ | refine VReq.mk (app_ok (by (try simp only [ln] at *); omega) (by kernel_rfl)) ?_) <;> conv=>whnf))
  ·have e : unt t (ls.take (k + 1)) = unt t (ls.take k) ++ [ls[k]] := by rw [List.take_succ_eq_append_getElem hlt, unt_snoc, if_pos h]
   refine aback (k + 1) [(0, .lab 2)] [] rfl ?_ hlt ?_ (by trivial)
   ·show ls.length - (k + 1) < ls.length - k; omega
   ·refine ⟨⟨rfl, rfl, ?_⟩, trivial⟩
    rw [e, List.map_append]; rfl
  ·have e : unt t (ls.take (k + 1)) = unt t (ls.take k) := by rw [List.take_succ_eq_append_getElem hlt, unt_snoc, if_neg (by omega)]
   refine aback (k + 1) [(0, .lab 0)] [] rfl ?_ hlt ?_ (by trivial)
   ·show ls.length - (k + 1) < ls.length - k; omega
   ·refine ⟨⟨rfl, rfl, ?_⟩, trivial⟩
    rw [e]
 ·have : k = ls.length := by simp at hge; omega
  subst this
  conv=>whnf
  rw [List.take_length]
  exact aend (.own 0) 1 _ [(0, .lab 0)] [] ⟨rfl, rfl, rfl⟩ rfl (by trivial) (by trivial)
def mbsL (R : ByteArray → ByteArray) (id : ByteArray) (l : List ByteArray) : Tx := ab id :: (l.filter fun x => decide (R x = R id)).map ab
theorem mbsL_snoc (R : ByteArray → ByteArray) (id : ByteArray) (l : List ByteArray) (x : ByteArray) : mbsL R id (l ++ [x]) = if R x = R id then mbsL R id l ++ [ab x] else mbsL R id l := by
 unfold mbsL
 rw [List.filter_append]
 by_cases h : R x = R id
 ·simp [h]
 ·simp [h]
theorem idsL_len (l : List Lk) : (idsL l).length = 2 * l.length := by
 unfold idsL
 induction l with
 | nil => rfl
 | cons k r ih => rw [List.flatMap_cons, List.length_append, ih]; simp; omega
theorem idsL_at (l : List Lk) : ∀ (i : Nat) (h : i < l.length), (idsL l)[2 * i]? = some l[i].a ∧ (idsL l)[2 * i + 1]? = some l[i].b := by
 induction l with
 | nil => intro i h; cases h
 | cons k r ih =>
  intro i h
  cases i with
  | zero => exact ⟨rfl, rfl⟩
  | succ i =>
   have := ih i (by simpa using h)
   have e : idsL (k :: r) = k.a :: k.b :: idsL r := rfl
   rw [e, show 2 * (i + 1) = 2 * i + 1 + 1 by omega]
   simpa using this
theorem enT_ab (x : ByteArray) : enT (ab x) = [FV.v (.string x)] := by
 have := ba_ab x
 unfold enT
 rw [show (⟨(ab x).toArray⟩ : ByteArray) = x from this]
theorem take_at {α : Type} {l : List α} {n : Nat} {x : α} (h : l[n]? = some x) : l.take (n + 1) = l.take n ++ [x] := by rw [List.take_add_one, h]; rfl
theorem membersA (ls : List Lk) (id : ByteArray) (hl : ls.length ≤ 100000) : AFn Tryz.prog G 107 [lksA ls, sv id] 0 [] (Is (tl (dsT (mbsL (rt ls) id (idsL ls))))) := by
 refine afn_of Tryz.func107 rfl mixed (by kernel_rfl) ?_
 conv=>whnf
 (refine acallF [] (by kernel_rfl) (iofA ls (by omega)) ?_ ?_; (focus trivial))
 rintro _ _ _ ⟨F, d, rfl, rfl, rfl, hf⟩
 conv=>whnf
 refine acallM [0] [] (by kernel_rfl) (frootA hf id) rfl (by trivial) (by trivial) ?_
 rintro _ _ _ ⟨rfl, rfl, rfl⟩
 refine ⟨rfl, ?_⟩
 conv=>whnf
 have hil := idsL_len ls
 have hlen : ∀ k, (mbsL (rt ls) id ((idsL ls).take k)).length ≤ 1 + 2 * ls.length := fun k => by
  unfold mbsL
  have := List.length_filter_le (fun x => decide (rt ls x = rt ls id)) ((idsL ls).take k)
  rw [List.length_take] at this
  simp only [List.length_cons, List.length_map]
  omega
 refine aloop ws107_1 3 [7, 21] (fun i : Nat => [(7, .own 2), (21, iv i)]) (fun i => [(2, .rows 9 1 ((mbsL (rt ls) id ((idsL ls).take (2 * i))).map enT)), (0, mF F)]) (fun i => i ≤ ls.length) (fun i => ls.length - i) [(2, .lab 1)] [] 0 (by kernel_rfl) (fun _ => rfl) rfl (Nat.zero_le _) ⟨⟨rfl, rfl, ?_⟩, (by trivial), trivial⟩ (by trivial) ?_
 ·show _ = (mbsL (rt ls) id ((idsL ls).take 0)).map enT
  rw [List.take_zero]
  show _ = [enT (ab id)]
  rw [enT_ab]
 intro i hi
 conv=>whnf
 apply vif_split <;> intro h
 ·have hlt : i < ls.length := by simp at h; omega
  have hat := idsL_at ls i hlt
  conv=>whnf
  refine AIn.mk' i rfl (lmZ hlt) ?_
  conv=>whnf
  refine ARd.mapAt (List.getElem?_eq_getElem hlt) ?_
  conv=>whnf
  generalize ls[i] = k at *
  refine aloop ws107_2 6 [7, 31] (fun j : Nat => [(7, .own 5), (31, iv j)]) (fun j => [(5, .rows 9 1 ((mbsL (rt ls) id ((idsL ls).take (2 * i + j))).map enT)), (4, .rows 9 1 [[.v (.string k.a)], [.v (.string k.b)]]), (0, mF F)]) (fun j => j ≤ 2) (fun j => 2 - j) [(5, .lab 2)] [] 0 (by kernel_rfl) (fun _ => rfl) rfl (Nat.zero_le _) ⟨(by trivial), (by trivial), (by trivial), trivial⟩ (by trivial) ?_
  intro j hj
  have hj3 : j = 0 ∨ j = 1 ∨ j = 2 := by omega
  rcases hj3 with rfl | rfl | rfl
  ·conv=>whnf
   have htk : (idsL ls).take (2 * i + 0 + 1) = (idsL ls).take (2 * i + 0) ++ [k.a] := take_at hat.1
   have hmb := mbsL_snoc (rt ls) id ((idsL ls).take (2 * i + 0)) k.a
   have hln := hlen (2 * i + 0)
   rw [← htk] at hmb
   refine AIn.mk' 0 rfl (show 0 < 2 by decide) ?_
   conv=>whnf
   refine ARd.at rfl ?_
   conv=>whnf
   refine acallM [0] [] (by kernel_rfl) (frootA hf k.a) rfl (by trivial) (by trivial) ?_
   rintro _ _ _ ⟨rfl, rfl, rfl⟩
   refine ⟨rfl, ?_⟩
   conv=>whnf
   apply vif_split <;> intro h
   ·rw [if_pos ((sEq_iff _ _).1 h)] at hmb
    conv=>whnf
    refine VReq.mk (app_ok (by simp only [List.length_map, List.length_cons, List.length_nil]; omega) (by kernel_rfl)) ?_
    conv=>whnf
    refine AAr.i64 (by omega) ?_
    conv=>whnf
    refine aback (0 + 1) [(5, .lab 7)] [] rfl (by show 2 - (0 + 1) < 2 - 0; decide) (by decide) ⟨⟨rfl, rfl, ?_⟩, (by trivial), (by trivial), trivial⟩ (by trivial)
    show _ = (mbsL (rt ls) id ((idsL ls).take (2 * i + 0 + 1))).map enT
    rw [hmb, List.map_append, List.map_singleton, enT_ab]
   ·rw [if_neg (fun e => by rw [(sEq_iff _ _).2 e] at h; cases h)] at hmb
    conv=>whnf
    refine AAr.i64 (by omega) ?_
    conv=>whnf
    refine aback (0 + 1) [(5, .lab 5)] [] rfl (by show 2 - (0 + 1) < 2 - 0; decide) (by decide) ⟨⟨rfl, rfl, ?_⟩, (by trivial), (by trivial), trivial⟩ (by trivial)
    show _ = (mbsL (rt ls) id ((idsL ls).take (2 * i + 0 + 1))).map enT
    rw [hmb]
  ·conv=>whnf
   have htk : (idsL ls).take (2 * i + 1 + 1) = (idsL ls).take (2 * i + 1) ++ [k.b] := take_at hat.2
   have hmb := mbsL_snoc (rt ls) id ((idsL ls).take (2 * i + 1)) k.b
   have hln := hlen (2 * i + 1)
   rw [← htk] at hmb
   refine AIn.mk' 1 rfl (show 1 < 2 by decide) ?_
   conv=>whnf
   refine ARd.at rfl ?_
   conv=>whnf
   refine acallM [0] [] (by kernel_rfl) (frootA hf k.b) rfl (by trivial) (by trivial) ?_
   rintro _ _ _ ⟨rfl, rfl, rfl⟩
   refine ⟨rfl, ?_⟩
   conv=>whnf
   apply vif_split <;> intro h
   ·rw [if_pos ((sEq_iff _ _).1 h)] at hmb
    conv=>whnf
    refine VReq.mk (app_ok (by simp only [List.length_map, List.length_cons, List.length_nil]; omega) (by kernel_rfl)) ?_
    conv=>whnf
    refine AAr.i64 (by omega) ?_
    conv=>whnf
    refine aback (1 + 1) [(5, .lab 7)] [] rfl (by show 2 - (1 + 1) < 2 - 1; decide) (by decide) ⟨⟨rfl, rfl, ?_⟩, (by trivial), (by trivial), trivial⟩ (by trivial)
    show _ = (mbsL (rt ls) id ((idsL ls).take (2 * i + 1 + 1))).map enT
    rw [hmb, List.map_append, List.map_singleton, enT_ab]
   ·rw [if_neg (fun e => by rw [(sEq_iff _ _).2 e] at h; cases h)] at hmb
    conv=>whnf
    refine AAr.i64 (by omega) ?_
    conv=>whnf
    refine aback (1 + 1) [(5, .lab 5)] [] rfl (by show 2 - (1 + 1) < 2 - 1; decide) (by decide) ⟨⟨rfl, rfl, ?_⟩, (by trivial), (by trivial), trivial⟩ (by trivial)
    show _ = (mbsL (rt ls) id ((idsL ls).take (2 * i + 1 + 1))).map enT
    rw [hmb]
  ·conv=>whnf
   refine AAr.i64 (by omega) ?_
   conv=>whnf
   exact aback (i + 1) [(2, .lab 5)] [] rfl (by show ls.length - (i + 1) < ls.length - i; omega) hlt ⟨⟨rfl, rfl, by rw [show 2 * (i + 1) = 2 * i + 2 by omega]⟩, (by trivial), trivial⟩ (by trivial)
 ·have hie : i = ls.length := by simp at h; omega
  subst hie
  have hL := hlen (2 * ls.length)
  rw [show (idsL ls).take (2 * ls.length) = idsL ls from List.take_of_length_le (by omega)] at hL ⊢
  have hne : mbsL (rt ls) id (idsL ls) ≠ [] := by simp [mbsL]
  generalize mbsL (rt ls) id (idsL ls) = L at *
  conv=>whnf
  refine acallM [2] [] (by kernel_rfl) (sortTA L hne (by omega)) rfl (by trivial) (by trivial) ?_
  rintro _ _ _ ⟨rfl, rfl, rfl⟩
  refine ⟨rfl, ?_⟩
  conv=>whnf
  refine acallM [2] [] (by kernel_rfl) (compactTA L hne (by omega)) rfl (by trivial) (by trivial) ?_
  rintro _ _ _ ⟨rfl, rfl, rfl⟩
  refine ⟨rfl, ?_⟩
  conv=>whnf
  exact aend (tl (dsT L)) 0 [] [] [2] ⟨rfl, rfl, rfl⟩ rfl trivial ⟨rfl, rfl, take_dsT _ _⟩
end
theorem ofK_take {k : Int} {l : List Ev} {p : Nat} (h : p < l.length) : ofK k (l.take (p + 1)) = if l[p].kind = k then ofK k (l.take p) ++ [l[p]] else ofK k (l.take p) := by
 unfold ofK
 rw [List.take_succ_eq_append_getElem h, List.filter_append]
 by_cases hc : l[p].kind = k
 ·simp [hc]
 ·simp [hc]
theorem ofK_at {k : Int} {l : List Ev} {p : Nat} (h : p < l.length) (hc : l[p].kind = k) : (ofK k l)[(ofK k (l.take p)).length]? = some l[p] := by
 have e : ofK k l = ofK k (l.take p) ++ l[p] :: ofK k (l.drop (p + 1)) := by
  have h1 : l = l.take p ++ l[p] :: l.drop (p + 1) := by rw [← List.drop_eq_getElem_cons h, List.take_append_drop]
  have h2 : ofK k (l.take p ++ l[p] :: l.drop (p + 1)) = ofK k (l.take p) ++ l[p] :: ofK k (l.drop (p + 1)) := by
   unfold ofK
   rw [List.filter_append, List.filter_cons, if_pos (by simp [hc])]
  rwa [← h1] at h2
 rw [e, List.getElem?_append_right (Nat.le_refl _), Nat.sub_self]
 rfl
theorem jofI (G : Glob) (l : List Ev) (k : Int) (hl : l.length ≤ 1000000) : AIt Tryz.prog G 100 [.fp [.lst 10 (l.map enE)] 0, .fp [.v (.int .i64 k)] 0] ((ofK k l).map fun e => [evA e]) := by
 intro n σ F vs W lp J hG hF hr hst hkp hy h0
 match vs, hr with
 | [v1, v2], ⟨r1, r2, _⟩ =>
 cases r1 with
 | fp f1 =>
 cases r2 with
 | fp f2 =>
 cases f1 with
 | fp _ _ b1 o1 hb1 hex1 hrep1 =>
 cases f2 with
 | fp _ _ b2 o2 hb2 hex2 hrep2 =>
 obtain ⟨x1, hc1, _⟩ := hex1 0 Nat.zero_lt_one
 obtain ⟨x2, hc2, _⟩ := hex2 0 Nat.zero_lt_one
 have hx1 := hrep1 0 _ x1 rfl hc1
 have hx2 := hrep2 0 _ x2 rfl hc2
 cases hx2
 obtain ⟨oa, c, rfl, hlc, hnc, hrow⟩ := flat_src (sz := 10) (enc := enE) (c := evc) enE_evc (ARep.lst (n := n) (σ := σ) hx1) hF
 refine calls_of_vy Tryz.func100 rfl (by kernel_rfl) (Nat.le_of_ble_eq_true rfl) rfl (by kernel_rfl) ?_
 obtain ⟨k1, k2, k3⟩ := hkp 0 W h0
 have c1 : W.cell? ⟨b1, o1 + 0, none⟩ = some (.slice oa l.length c) := hc1
 conv=>whnf
 refine vs_load1 rfl c1 ?_
 conv=>whnf
 refine vloop (X := Nat) ws100_1 (fun p => [(8, .int .i64 p)]) (fun p w' => p ≤ l.length ∧ J (ofK k (l.take p)).length w') (fun p => l.length - p) 0 (by kernel_rfl) ⟨rfl, trivial⟩ ⟨Nat.zero_le _, h0⟩ ?_
 rintro p w' j ⟨hp, hJ⟩
 obtain ⟨m1, m2, m3⟩ := hkp _ w' hJ
 have hx' : FRep F w' (.lst 10 (l.map enE)) (.slice oa l.length c) := FRep.mono (fun b hb => ⟨hb, m3 b hb⟩) hx1
 obtain ⟨oa', c', e', _, _, hrow'⟩ := flat_src (sz := 10) (enc := enE) (c := evc) enE_evc (ARep.lst (n := n) (σ := σ) hx') (fun b hb => Nat.lt_of_lt_of_le (hF b hb) m1)
 injection e' with e1 e2 e3
 subst e1; subst e3
 have c2 : w'.cell? ⟨b2, o2 + 0, none⟩ = some (.int .i64 k) := by rw [cell_heap (m3 b2 hb2)]; exact hc2
 conv=>whnf
 apply vif_split <;> intro h
 ·have hlt : p < l.length := by simp at h; omega
  have hsn := ofK_take (k := k) hlt
  obtain ⟨b, o, rfl, hbl, hc⟩ := hrow'.at (by rw [recs_len evc_len]; omega)
  have hseg := recs_seg evc_len l p hlt
  conv=>whnf
  (repeat (first | (refine VReq.mk (by first | decide | omega) ?_; conv=>whnf) | (refine VPend.mk rfl ?_; conv=>whnf) | (refine VNext.keep rfl ?_; conv=>whnf) | (refine vs_slI1 _ rfl rfl rfl (by assumption) ?_; conv=>whnf) | (refine vs_slI _ rfl rfl rfl (by assumption) ?_; conv=>whnf) | (refine vs_arr1 _ rfl rfl rfl (by assumption) ?_; conv=>whnf) | (refine vs_loadF (by with_reducible assumption) (by assumption) rfl rfl ?_; conv=>whnf) | (refine vs_loadF0 (by with_reducible assumption) (by assumption) rfl rfl ?_; conv=>whnf) | (refine vs_loadI (by with_reducible assumption) (by assumption) rfl ?_; conv=>whnf) | (refine vs_loadB rfl (by with_reducible assumption) (by assumption) ?_; conv=>whnf)))
  refine vs_loadS hc hseg rfl rfl ?_
  conv=>whnf
  refine vs_storeW (Blk.new _ _ _) rfl rfl rfl ?_
  intro w3 hO3 hb3
  have hB3 : Below w'.heap.size w' w3 := (balloc (Below.refl _ _) (Nat.le_refl _) _).trans (hO3.below (Nat.le_refl _))
  have hJ3 := hst _ _ _ hJ hB3
  obtain ⟨_, _, q3⟩ := hkp _ w3 hJ3
  have c3 : w3.cell? ⟨b2, o2 + 0, none⟩ = some (.int .i64 k) := by rw [cell_heap (q3 b2 hb2)]; exact hc2
  conv=>whnf
  refine vs_loadB rfl hb3 rfl ?_
  conv=>whnf
  refine vs_load1 rfl c3 ?_
  conv=>whnf
  refine vif_split (fun h2 => ?_) (fun h2 => ?_)
  ·have hk : l[p].kind = k := by simpa using h2
   rw [if_pos hk] at hsn
   have hyk := ofK_at hlt hk
   conv=>whnf
   refine vs_loadNB (l := evc l[p]) rfl rfl hb3 ?_
   conv=>whnf
   obtain ⟨fn, tmps, assign, body, hyr, hR⟩ := hy (ofK k (l.take p)).length [evA l[p]] w3 [.agg (evc l[p]).toArray] (by rw [List.getElem?_map, hyk]; rfl) hJ3 ⟨RepL.agg (map_v_rep (evc l[p])), trivial⟩
   refine ⟨⟨fn, tmps, assign, body, hyr, RoundIn.mono hR ?_⟩⟩
   rintro e W2 ⟨rfl, hJ2⟩
   refine ⟨_, rfl, ?_⟩
   conv=>whnf
   refine VBack.mk ⟨_, ?_, (p + 1), rfl, ⟨?_, trivial⟩, hlt, by rw [hsn, List.length_append]; exact hJ2⟩
   ·show l.length - (p + 1) < l.length - p; omega
   ·show Value.int .i64 (IntKind.i64.wrap ((p : Int) + 1)) = .int .i64 ((p + 1 : Nat) : Int)
    congr 1
    exact IntWalk.i64_in _ (by omega)
  ·have hk : ¬ l[p].kind = k := by simpa using h2
   rw [if_neg hk] at hsn
   conv=>whnf
   refine VBack.mk ⟨_, ?_, (p + 1), rfl, ⟨?_, trivial⟩, hlt, by rw [hsn]; exact hJ3⟩
   ·show l.length - (p + 1) < l.length - p; omega
   ·show Value.int .i64 (IntKind.i64.wrap ((p : Int) + 1)) = .int .i64 ((p + 1 : Nat) : Int)
    congr 1
    exact IntWalk.i64_in _ (by omega)
 ·have hpe : p = l.length := by simp at h; omega
  subst hpe
  rw [List.take_length] at hJ
  conv=>whnf
  refine ⟨?_⟩
  rw [List.length_map]
  exact hJ
theorem jofA (G : Glob) (l : List Ev) (k : Int) : AFn Tryz.prog G 73 [el l, iv k] 0 [] (Is (.fn (.func 100) [] [.fp [.lst 10 (l.map enE)] 0, .fp [.v (.int .i64 k)] 0])) := by
 refine afn_of Tryz.func73 rfl mixed (by kernel_rfl) ?_
 conv=>whnf
 exact aendClo [(0, 41, [.lst 10 (l.map enE)]), (1, 3, [.v (.int .i64 k)])] ⟨rfl, rfl, rfl⟩ (fun p hp => by
  rcases List.mem_cons.1 hp with rfl | hp
  ·rfl
  ·rw [List.mem_singleton.1 hp]; rfl)
theorem rng_at {l : List Ev} {i : Nat} {x : List AV} (h : (l.map fun e => [evA e])[i]? = some x) : ∃ hi : i < l.length, x = [evA l[i]] := by
 rw [List.getElem?_map] at h
 cases hl : l[i]? with
 | none => rw [hl] at h; cases h
 | some e =>
  obtain ⟨hi, rfl⟩ := List.getElem?_eq_some_iff.1 hl
  rw [hl] at h
  injection h with h
  exact ⟨hi, h.symm⟩
theorem rng_1 {l : List Ev} : ∀ x ∈ l.map (fun e => [evA e]), x.length = 1 := fun x hx => by
 obtain ⟨e, _, rfl⟩ := List.mem_map.1 hx
 rfl
theorem ofK_le (k : Int) (l : List Ev) : (ofK k l).length ≤ l.length := List.length_filter_le _ _
section
variable {G : Glob}
theorem linksA (l : List Ev) (hl : l.length ≤ 1000000) : AFn Tryz.prog G 91 [el l] 0 [] (Is (lksA (lksE l))) := by
 refine afnY_of Tryz.func91 rfl mixed (by kernel_rfl) ?_
 conv=>whnf
 (refine acallF [] (by kernel_rfl) (jofA G l 3) ?_ ?_; (focus trivial))
 rintro _ _ _ ⟨rfl, rfl, rfl⟩
 conv=>whnf
 have hol := ofK_le 3 l
 refine arange (jofI G l 3 hl) 2 (fun i => [(0, .var 87 [.own 1]), (1, .rows 135 3 ((((ofK 3 l).take i).map lkE).map lkF))]) [(1, .nil)] [] rfl (by kernel_rfl) rfl (fun x hx => rng_1 x hx) rfl (by trivial) (fun i x hx => ?_) ?_
 ·obtain ⟨hi, rfl⟩ := rng_at hx
  have hsn : (ofK 3 l).take (i + 1) = (ofK 3 l).take i ++ [(ofK 3 l)[i]] := List.take_succ_eq_append_getElem hi
  generalize (ofK 3 l)[i] = e at *
  conv=>whnf
  refine VReq.mk (app_ok (by simp only [List.length_map, List.length_take, List.length_cons, List.length_nil]; omega) (by kernel_rfl)) ?_
  conv=>whnf
  refine arback [(1, .lab 4)] [] rfl ⟨(by trivial), ⟨rfl, rfl, ?_⟩, trivial⟩
  rw [hsn, List.map_append, List.map_append]
  rfl
 ·rw [List.length_map, List.take_length]
  conv=>whnf
  exact aend (lksA (lksE l)) 0 [] [] [1] ⟨rfl, rfl, rfl⟩ rfl trivial (by trivial)
def kmap (ls : List Lk) (t : Int) : ByteArray → Option Value := fun id => if hasB (idsL (frs (unt t ls))) id = true then some (.string (rt (unt t ls) id)) else none
def Tm (ls : List Lk) (ts : List Int) : Int → Option FV := fun t => if t ∈ ts then some (.fm (kmap ls t)) else none
def ppB (ls : List Lk) : ABlk := .var 145 [lksA ls, .mp 1]
theorem Tm_nil (ls : List Lk) : Tm ls [] = fun _ => none := by funext t; unfold Tm; simp
theorem Tm_two (ls : List Lk) (t : Int) (ts : List Int) : Tm ls (t :: t :: ts) = Tm ls (t :: ts) := by funext k; unfold Tm; simp
theorem Tm_mem {ls : List Lk} {t : Int} {ts : List Int} (h : t ∈ ts) : Tm ls ts = Tm ls (t :: ts) := by
 funext k
 unfold Tm
 by_cases e : k = t
 ·subst e; simp [h]
 ·simp [e]
theorem meetA (l : List Ev) (hl : l.length ≤ 1000000) : AFn Tryz.prog G 64 [el l] 0 [] (fun a n H => a = .ptr 0 0 ∧ n = 2 ∧ H = [(0, ppB (lksE l)), (1, .imap (Tm (lksE l) []))]) := by
 refine afn_of Tryz.func64 rfl mixed (by kernel_rfl) ?_
 conv=>whnf
 (refine acallF [] (by kernel_rfl) (linksA l hl) ?_ ?_; (focus trivial))
 rintro _ _ _ ⟨rfl, rfl, rfl⟩
 conv=>whnf
 exact aend (.ptr 0 0) 2 _ [(0, .lab 1), (1, .lab 0)] [] ⟨rfl, rfl, rfl⟩ rfl ⟨(by trivial), (Tm_nil _).symm, trivial⟩ (by trivial)
end
structure KI (fr : List Lk) (pos : Nat) (K : ByteArray → Option ByteArray) : Prop where
 sound : ∀ id v, K id = some v → v = rt fr id ∧ id ∈ idsL fr
 done : ∀ j x, j < pos → (idsL fr)[j]? = some x → ∃ v, K x = some v
theorem KI.nil (fr : List Lk) : KI fr 0 fun _ => none := ⟨fun _ _ h => (by cases h), fun _ _ h => absurd h (Nat.not_lt_zero _)⟩
theorem KI.next {fr : List Lk} {pos : Nat} {K : ByteArray → Option ByteArray} (h : KI fr pos K) {x v : ByteArray} (hx : (idsL fr)[pos]? = some x) (hv : K x = some v) : KI fr (pos + 1) K := ⟨h.sound, fun j y hj hy => by
 rcases Nat.lt_or_ge j pos with h1 | h1
 ·exact h.done j y h1 hy
 ·have : j = pos := by omega
  subst this
  rw [hx] at hy
  injection hy with hy
  subst hy
  exact ⟨v, hv⟩⟩
theorem KI.put {fr : List Lk} {pos : Nat} {K : ByteArray → Option ByteArray} (h : KI fr pos K) {y : ByteArray} (hy : y ∈ idsL fr) : KI fr pos fun k => if k = y then some (rt fr y) else K k := ⟨fun id v hv => by
  by_cases e : id = y
  ·simp only [if_pos e, Option.some.injEq] at hv
   subst e
   exact ⟨hv.symm, hy⟩
  ·simp only [if_neg e] at hv
   exact h.sound id v hv, fun j x hj hx => by
  by_cases e : x = y
  ·exact ⟨_, if_pos e⟩
  ·obtain ⟨v, hv⟩ := h.done j x hj hx
   exact ⟨v, by simp only [if_neg e]; exact hv⟩⟩
theorem KI.fin {ls : List Lk} {t : Int} {K : ByteArray → Option ByteArray} (h : KI (frs (unt t ls)) (idsL (frs (unt t ls))).length K) : (fun k => (K k).map Value.string) = kmap ls t := by
 funext id
 unfold kmap
 cases hK : K id with
 | some v =>
  obtain ⟨h1, h2⟩ := h.sound id v hK
  rw [if_pos ((hasB_iff _ _).2 h2), h1, frs_rt]
  rfl
 | none =>
  rw [if_neg]
  ·rfl
  ·intro hb
   obtain ⟨j, hj⟩ := List.getElem?_of_mem ((hasB_iff _ _).1 hb)
   obtain ⟨v, hv⟩ := h.done j id (List.getElem?_eq_some_iff.1 hj).1 hj
   rw [hK] at hv
   cases hv
theorem head_least {g : Tx} (hs : SST g) {z : By} (hz : z ∈ g) (hle : ∀ y ∈ g, ¬ y < z) : g[0]? = some z := by
 cases g with
 | nil => cases hz
 | cons y r =>
  rcases List.mem_cons.1 hz with rfl | hz
  ·rfl
  ·exact absurd ((List.pairwise_cons.1 hs).1 z hz) (hle y List.mem_cons_self)
theorem mbs_mem {fr : List Lk} {x : ByteArray} (hx : x ∈ idsL fr) (y : By) : y ∈ dsT (mbsL (rt fr) x (idsL fr)) ↔ ba y ∈ idsL fr ∧ rt fr (ba y) = rt fr x := by
 rw [dsT_mem]
 unfold mbsL
 simp only [List.mem_cons, List.mem_map, List.mem_filter, decide_eq_true_eq]
 constructor
 ·rintro (rfl | ⟨z, ⟨h1, h2⟩, rfl⟩)
  ·rw [ba_ab]; exact ⟨hx, rfl⟩
  ·rw [ba_ab]; exact ⟨h1, h2⟩
 ·rintro ⟨h1, h2⟩
  exact .inr ⟨ba y, ⟨h1, h2⟩, rfl⟩
theorem mbs_head {fr : List Lk} {x : ByteArray} (hx : x ∈ idsL fr) : (dsT (mbsL (rt fr) x (idsL fr)))[0]? = some (ab (rt fr x)) := by
 refine head_least (dsT_ss _) ((mbs_mem hx _).2 ?_) fun y hy => ?_
 ·rw [ba_ab]; exact ⟨rt_in hx, rt_idem fr x⟩
 ·have := ((mbs_mem hx y).1 hy).2
  have h := rt_least fr x (ba y) this.symm
  exact h
structure KX where
 i : Nat
 K : ByteArray → Option ByteArray
theorem put_mF (K : ByteArray → Option ByteArray) (y v : ByteArray) : (fun k' => if k' = y then some (Value.string v) else (K k').map Value.string) = fun k => (if k = y then some v else K k).map Value.string := by
 funext k
 split <;> rfl
theorem Tm_put (ls : List Lk) (t : Int) (ts : List Int) (M : ByteArray → Option Value) (hM : M = kmap ls t) : (fun k' => if k' = t then some (FV.fm M) else Tm ls ts k') = Tm ls (t :: ts) := by
 subst hM
 funext k
 unfold Tm
 by_cases e : k = t
 ·subst e; simp
 ·simp [e]
theorem own_root {ls : List Lk} {t : Int} {id : ByteArray} (h : hasB (idsL (frs (unt t ls))) id = false) : rt (unt t ls) id = id := by
 rw [← frs_rt]
 exact rt_own ((hasB_not _ _).1 h)
section
variable {G : Glob}
theorem jrootA (ls : List Lk) (ts : List Int) (t : Int) (id : By) (hl : ls.length ≤ 50000) : AFn Tryz.prog G 78 [.ptr 0 0, tv id, iv t] 2 [(0, ppB ls), (1, .imap (Tm ls ts))] (fun a n H => a = sv (rtA ls t id) ∧ n = 2 ∧ H = [(0, ppB ls), (1, .imap (Tm ls (t :: ts)))]) := by
 have hul : (unt t ls).length ≤ ls.length := unt_len t ls
 have hfl : (frs (unt t ls)).length ≤ ls.length := Nat.le_trans (frs_len _) hul
 refine afn_of Tryz.func78 rfl mixed (by kernel_rfl) ?_
 conv=>whnf
 refine ⟨fun hno => ?_, fun x hx => ?_⟩
 rotate_left 1
 ·have ht : t ∈ ts ∧ x = .fm (kmap ls t) := by
   unfold Tm at hx
   split at hx
   ·rename_i h; injection hx with hx; exact ⟨h, hx.symm⟩
   ·cases hx
  obtain ⟨ht, rfl⟩ := ht
  conv=>whnf
  refine ⟨?_⟩
  cases hb : hasB (idsL (frs (unt t ls))) (ba id) with
  | true =>
   have e : kmap ls t (ba id) = some (.string (rtA ls t id)) := if_pos hb
   skip
   rw [e]
   simp only [Option.getD_some, Option.isSome_some]
   conv=>whnf
   exact aend (sv (rtA ls t id)) 2 [(0, ppB ls), (1, .imap (Tm ls (t :: ts)))] [] [] ⟨rfl, rfl, rfl⟩ rfl ⟨(by trivial), (Tm_mem ht), trivial⟩ (by trivial)
  | false =>
   have e : kmap ls t (ba id) = none := if_neg (by rw [hb]; exact Bool.false_ne_true)
   have e2 : rtA ls t id = ba id := own_root hb
   skip
   rw [e]
   simp only [Option.getD_none, Option.isSome_none]
   conv=>whnf
   exact aend (sv (rtA ls t id)) 2 [(0, ppB ls), (1, .imap (Tm ls (t :: ts)))] [] [] ⟨rfl, rfl, rfl⟩ rfl ⟨(by trivial), (Tm_mem ht), trivial⟩ (by rw [e2]; trivial)
 conv=>whnf
 (refine acallF [] (by kernel_rfl) (AFn.frz (until1A ls t (by omega))) ?_ ?_; (focus trivial))
 rintro _ _ _ ⟨rfl, rfl, rfl⟩
 conv=>whnf
 (refine acallF [] (by kernel_rfl) (AFn.frz (forestA (unt t ls) (by omega))) ?_ ?_; (focus trivial))
 rintro _ _ _ ⟨rfl, rfl, rfl⟩
 have hfin : ∀ K, KI (frs (unt t ls)) (idsL (frs (unt t ls))).length K → (fun k => (K k).map Value.string) = kmap ls t := fun K h => h.fin
 have hil := idsL_len (frs (unt t ls))
 generalize hfr : frs (unt t ls) = fr at *
 conv=>whnf
 refine aloop ws78_1 3 [38] (fun x : KX => [(38, iv x.i)]) (fun x => [(2, mF x.K), (0, ppB ls), (1, .imap (Tm ls ts))]) (fun x => x.i ≤ fr.length ∧ KI fr (2 * x.i) x.K) (fun x => fr.length - x.i) [] [] ⟨0, fun _ => none⟩ (by kernel_rfl) (fun _ => rfl) rfl ⟨Nat.zero_le _, KI.nil fr⟩ (by trivial) (by trivial) ?_
 rintro ⟨i, K⟩ ⟨hi, hK⟩
 change i ≤ fr.length at hi
 change KI fr (2 * i) K at hK
 conv=>whnf
 apply vif_split <;> intro h
 rotate_left 1
 ·have hie : i = fr.length := by simp at h; omega
  subst hie
  have hKf := hfin K (by rw [hil]; exact hK)
  subst hfr
  conv=>whnf
  refine ⟨?_⟩
  cases hb : hasB (idsL (frs (unt t ls))) (ba id) with
  | true =>
   have e : kmap ls t (ba id) = some (.string (rtA ls t id)) := if_pos hb
   (have hM : (fun k => (K k).map Value.string) (ba id) = kmap ls t (ba id) := congrFun hKf (ba id)); dsimp only at hM; try dsimp only; rw [hM]
   rw [e]
   simp only [Option.getD_some, Option.isSome_some]
   conv=>whnf
   exact aend (sv (rtA ls t id)) 2 [(0, ppB ls), (1, .imap (Tm ls (t :: ts)))] [] [] ⟨rfl, rfl, rfl⟩ rfl ⟨(by trivial), (Tm_put ls t ts _ hKf), trivial⟩ (by trivial)
  | false =>
   have e : kmap ls t (ba id) = none := if_neg (by rw [hb]; exact Bool.false_ne_true)
   have e2 : rtA ls t id = ba id := own_root hb
   (have hM : (fun k => (K k).map Value.string) (ba id) = kmap ls t (ba id) := congrFun hKf (ba id)); dsimp only at hM; try dsimp only; rw [hM]
   rw [e]
   simp only [Option.getD_none, Option.isSome_none]
   conv=>whnf
   exact aend (sv (rtA ls t id)) 2 [(0, ppB ls), (1, .imap (Tm ls (t :: ts)))] [] [] ⟨rfl, rfl, rfl⟩ rfl ⟨(by trivial), (Tm_put ls t ts _ hKf), trivial⟩ (by rw [e2]; trivial)
 have hlt : i < fr.length := by simp at h; omega
 have hat := idsL_at fr i hlt
 conv=>whnf
 refine AIn.mk' i rfl (lmZ hlt) ?_
 conv=>whnf
 refine ARd.mapAt (List.getElem?_eq_getElem hlt) ?_
 conv=>whnf
 generalize fr[i] = k at *
 refine aloop ws78_2 5 [48] (fun x : KX => [(48, iv x.i)]) (fun x => [(4, .rows 9 1 [[.v (.string k.a)], [.v (.string k.b)]]), (2, mF x.K), (0, ppB ls), (1, .imap (Tm ls ts))]) (fun x => x.i ≤ 2 ∧ KI fr (2 * i + x.i) x.K) (fun x => 2 - x.i) [] [] ⟨0, K⟩ (by kernel_rfl) (fun _ => rfl) rfl ⟨Nat.zero_le _, hK⟩ (by trivial) (by trivial) ?_
 clear hK
 rintro ⟨j, K⟩ ⟨hj, hK⟩
 change j ≤ 2 at hj
 change KI fr (2 * i + j) K at hK
 have hj3 : j = 0 ∨ j = 1 ∨ j = 2 := by omega
 rcases hj3 with rfl | rfl | rfl
 ·conv=>whnf
  refine AIn.mk' 0 rfl (show 0 < 2 by decide) ?_
  conv=>whnf
  refine ARd.at rfl ?_
  conv=>whnf
  refine ⟨?_⟩
  have hxm : k.a ∈ idsL fr := List.mem_of_getElem? hat.1
  cases hKx : K k.a with
  | some v =>
   simp only [hKx, Option.map_some, Option.getD_some, Option.isSome_some]
   conv=>whnf
   refine AAr.i64 (by (try dsimp only); omega) ?_
   conv=>whnf
   exact aback ⟨0 + 1, K⟩ [] [] rfl (by show 2 - (0 + 1) < 2 - 0; decide) ⟨(by decide : 0 + 1 ≤ 2), hK.next hat.1 hKx⟩ (by trivial) (by trivial)
  | none =>
   simp only [hKx, Option.map_none, Option.getD_none, Option.isSome_none]
   conv=>whnf
   have hgm := mbs_mem hxm
   have hgh := mbs_head hxm
   have hgl := dsT_len (mbsL (rt fr) k.a (idsL fr))
   have hgl2 : (mbsL (rt fr) k.a (idsL fr)).length ≤ 1 + (idsL fr).length := by
    unfold mbsL
    have := List.length_filter_le (fun x => decide (rt fr x = rt fr k.a)) (idsL fr)
    simp only [List.length_cons, List.length_map]
    omega
   have hg5 : (dsT (mbsL (rt fr) k.a (idsL fr))).length ≤ 200000 := by omega
   (refine acallF [] (by kernel_rfl) (membersA fr k.a (by omega)) ?_ ?_; (focus trivial))
   rintro _ _ _ ⟨rfl, rfl, rfl⟩
   generalize dsT (mbsL (rt fr) k.a (idsL fr)) = g at *
   conv=>whnf
   refine aloop ws78_3 5 [64] (fun x : KX => [(64, iv x.i)]) (fun x => [(4, .rows 9 1 [[.v (.string k.a)], [.v (.string k.b)]]), (2, mF x.K), (0, ppB ls), (1, .imap (Tm ls ts))]) (fun x => x.i ≤ g.length ∧ KI fr (2 * i + 0) x.K ∧ ∀ r y, r < x.i → g[r]? = some y → ∃ v, x.K (ba y) = some v) (fun x => g.length - x.i) [] [] ⟨0, K⟩ (by kernel_rfl) (fun _ => rfl) rfl ⟨Nat.zero_le _, hK, fun r y h => absurd h (Nat.not_lt_zero r)⟩ (by trivial) (by trivial) ?_
   clear hK hKx
   rintro ⟨q, K⟩ ⟨hq, hK, hr⟩
   change q ≤ g.length at hq
   change KI fr (2 * i + 0) K at hK
   change ∀ r y, r < q → g[r]? = some y → ∃ v, K (ba y) = some v at hr
   conv=>whnf
   apply vif_split <;> intro h
   ·have hlq : q < g.length := by simp at h; omega
    have hgq := List.getElem?_eq_getElem hlq
    have hyg := (hgm g[q]).1 (List.getElem_mem hlq)
    generalize g[q] = y at *
    conv=>whnf
    refine AIn.mk' q rfl (lmZ hlq) ?_
    conv=>whnf
    refine ARd.mapAt hgq ?_
    conv=>whnf
    refine AIn.mk' 0 rfl (by rw [List.length_map]; omega) ?_
    conv=>whnf
    refine ARd.mapAt hgh ?_
    conv=>whnf
    refine AAr.i64 (by (try dsimp only); omega) ?_
    conv=>whnf
    refine aback ⟨q + 1, fun k' => if k' = ba y then some (rt fr (ba y)) else K k'⟩ [] [] rfl (by show g.length - (q + 1) < g.length - q; omega) ⟨hlq, hK.put hyg.1, fun r z hr1 hz => ?_⟩ ⟨(by trivial), ?_, (by trivial), (by trivial), trivial⟩ (by trivial)
    ·change r < q + 1 at hr1
     show ∃ v, (if ba z = ba y then some (rt fr (ba y)) else K (ba z)) = some v
     by_cases e : ba z = ba y
     ·exact ⟨_, if_pos e⟩
     ·rw [if_neg e]
      refine hr r z ?_ hz
      rcases Nat.lt_or_ge r q with h1 | h1
      ·exact h1
      ·have : r = q := by omega
       subst this
       rw [hgq] at hz
       injection hz with hz
       exact absurd (by rw [hz]) e
    ·rw [hyg.2]
     exact (put_mF K (ba y) (ba (ab (rt fr k.a)))).trans (by rw [ba_ab])
   ·have hqe : q = g.length := by simp at h; omega
    subst hqe
    obtain ⟨r, hr1⟩ := List.getElem?_of_mem ((hgm (ab k.a)).2 (by rw [ba_ab]; exact ⟨hxm, rfl⟩))
    obtain ⟨v, hv⟩ := hr r _ (List.getElem?_eq_some_iff.1 hr1).1 hr1
    rw [ba_ab] at hv
    conv=>whnf
    refine AAr.i64 (by (try dsimp only); omega) ?_
    conv=>whnf
    exact aback ⟨0 + 1, K⟩ [] [] rfl (by show 2 - (0 + 1) < 2 - 0; decide) ⟨(by decide : 0 + 1 ≤ 2), hK.next hat.1 hv⟩ (by trivial) (by trivial)
 ·conv=>whnf
  refine AIn.mk' 1 rfl (show 1 < 2 by decide) ?_
  conv=>whnf
  refine ARd.at rfl ?_
  conv=>whnf
  refine ⟨?_⟩
  have hxm : k.b ∈ idsL fr := List.mem_of_getElem? hat.2
  cases hKx : K k.b with
  | some v =>
   simp only [hKx, Option.map_some, Option.getD_some, Option.isSome_some]
   conv=>whnf
   refine AAr.i64 (by (try dsimp only); omega) ?_
   conv=>whnf
   exact aback ⟨1 + 1, K⟩ [] [] rfl (by show 2 - (1 + 1) < 2 - 1; decide) ⟨(by decide : 1 + 1 ≤ 2), hK.next hat.2 hKx⟩ (by trivial) (by trivial)
  | none =>
   simp only [hKx, Option.map_none, Option.getD_none, Option.isSome_none]
   conv=>whnf
   have hgm := mbs_mem hxm
   have hgh := mbs_head hxm
   have hgl := dsT_len (mbsL (rt fr) k.b (idsL fr))
   have hgl2 : (mbsL (rt fr) k.b (idsL fr)).length ≤ 1 + (idsL fr).length := by
    unfold mbsL
    have := List.length_filter_le (fun x => decide (rt fr x = rt fr k.b)) (idsL fr)
    simp only [List.length_cons, List.length_map]
    omega
   have hg5 : (dsT (mbsL (rt fr) k.b (idsL fr))).length ≤ 200000 := by omega
   (refine acallF [] (by kernel_rfl) (membersA fr k.b (by omega)) ?_ ?_; (focus trivial))
   rintro _ _ _ ⟨rfl, rfl, rfl⟩
   generalize dsT (mbsL (rt fr) k.b (idsL fr)) = g at *
   conv=>whnf
   refine aloop ws78_3 5 [64] (fun x : KX => [(64, iv x.i)]) (fun x => [(4, .rows 9 1 [[.v (.string k.a)], [.v (.string k.b)]]), (2, mF x.K), (0, ppB ls), (1, .imap (Tm ls ts))]) (fun x => x.i ≤ g.length ∧ KI fr (2 * i + 1) x.K ∧ ∀ r y, r < x.i → g[r]? = some y → ∃ v, x.K (ba y) = some v) (fun x => g.length - x.i) [] [] ⟨0, K⟩ (by kernel_rfl) (fun _ => rfl) rfl ⟨Nat.zero_le _, hK, fun r y h => absurd h (Nat.not_lt_zero r)⟩ (by trivial) (by trivial) ?_
   clear hK hKx
   rintro ⟨q, K⟩ ⟨hq, hK, hr⟩
   change q ≤ g.length at hq
   change KI fr (2 * i + 1) K at hK
   change ∀ r y, r < q → g[r]? = some y → ∃ v, K (ba y) = some v at hr
   conv=>whnf
   apply vif_split <;> intro h
   ·have hlq : q < g.length := by simp at h; omega
    have hgq := List.getElem?_eq_getElem hlq
    have hyg := (hgm g[q]).1 (List.getElem_mem hlq)
    generalize g[q] = y at *
    conv=>whnf
    refine AIn.mk' q rfl (lmZ hlq) ?_
    conv=>whnf
    refine ARd.mapAt hgq ?_
    conv=>whnf
    refine AIn.mk' 0 rfl (by rw [List.length_map]; omega) ?_
    conv=>whnf
    refine ARd.mapAt hgh ?_
    conv=>whnf
    refine AAr.i64 (by (try dsimp only); omega) ?_
    conv=>whnf
    refine aback ⟨q + 1, fun k' => if k' = ba y then some (rt fr (ba y)) else K k'⟩ [] [] rfl (by show g.length - (q + 1) < g.length - q; omega) ⟨hlq, hK.put hyg.1, fun r z hr1 hz => ?_⟩ ⟨(by trivial), ?_, (by trivial), (by trivial), trivial⟩ (by trivial)
    ·change r < q + 1 at hr1
     show ∃ v, (if ba z = ba y then some (rt fr (ba y)) else K (ba z)) = some v
     by_cases e : ba z = ba y
     ·exact ⟨_, if_pos e⟩
     ·rw [if_neg e]
      refine hr r z ?_ hz
      rcases Nat.lt_or_ge r q with h1 | h1
      ·exact h1
      ·have : r = q := by omega
       subst this
       rw [hgq] at hz
       injection hz with hz
       exact absurd (by rw [hz]) e
    ·rw [hyg.2]
     exact (put_mF K (ba y) (ba (ab (rt fr k.b)))).trans (by rw [ba_ab])
   ·have hqe : q = g.length := by simp at h; omega
    subst hqe
    obtain ⟨r, hr1⟩ := List.getElem?_of_mem ((hgm (ab k.b)).2 (by rw [ba_ab]; exact ⟨hxm, rfl⟩))
    obtain ⟨v, hv⟩ := hr r _ (List.getElem?_eq_some_iff.1 hr1).1 hr1
    rw [ba_ab] at hv
    conv=>whnf
    refine AAr.i64 (by (try dsimp only); omega) ?_
    conv=>whnf
    exact aback ⟨1 + 1, K⟩ [] [] rfl (by show 2 - (1 + 1) < 2 - 1; decide) ⟨(by decide : 1 + 1 ≤ 2), hK.next hat.2 hv⟩ (by trivial) (by trivial)
 ·conv=>whnf
  refine AAr.i64 (by (try dsimp only); omega) ?_
  conv=>whnf
  exact aback ⟨i + 1, K⟩ [] [] rfl (by show fr.length - (i + 1) < fr.length - i; omega) ⟨hlt, hK⟩ (by trivial) (by trivial)
end
def tsN (name : By) (ts : List Int) (e : Ev) : List Int := if e.name = name then e.time :: ts else ts
def tsF (name : By) (ts : List Int) (l : List Ev) : List Int := l.foldl (tsN name) ts
theorem tsF_snoc (name : By) (ts : List Int) (l : List Ev) (e : Ev) : tsF name ts (l ++ [e]) = tsN name (tsF name ts l) e := by unfold tsF; rw [List.foldl_append]; rfl
section
variable {G : Glob}
theorem ownerA (ls : List Lk) (ts : List Int) (xs : List Ex) (id : By) (t : Int) (hl : ls.length ≤ 50000) (hx : xs.length ≤ 100000) : AFn Tryz.prog G 74 [.ptr 0 0, exL xs, tv id, iv t] 2 [(0, ppB ls), (1, .imap (Tm ls ts))] (fun a n H => a = iv (owI ls xs id t) ∧ n = 2 ∧ H = [(0, ppB ls), (1, .imap (Tm ls (t :: ts)))]) := by
 refine afn_of Tryz.func74 rfl mixed (by kernel_rfl) ?_
 conv=>whnf
 refine acallM [0, 1] [] (by kernel_rfl) (jrootA ls ts t id hl) rfl (by trivial) (by trivial) ?_
 rintro _ _ _ ⟨rfl, rfl, rfl⟩
 refine ⟨rfl, ?_⟩
 conv=>whnf
 refine aloop ws74_1 2 [18] (fun i : Nat => [(18, iv i)]) (fun i => [(0, ppB ls), (1, .imap (Tm ls (t :: ts)))]) (fun i => i ≤ xs.length ∧ ∀ j (h : j < xs.length), j < i → owP ls t id xs[j] = false) (fun i => xs.length - i) [] [] 0 (by kernel_rfl) (fun _ => rfl) rfl ⟨Nat.zero_le _, fun j _ h => absurd h (Nat.not_lt_zero j)⟩ (by trivial) (by trivial) ?_
 rintro i ⟨hi, hno⟩
 conv=>whnf
 apply vif_split <;> intro h
 rotate_left 1
 ·have hie : i = xs.length := by simp at h; omega
  subst hie
  have e : owI ls xs id t = -1 := by unfold owI; rw [owO_none fun j h => hno j h h]
  conv=>whnf
  exact aend (iv (owI ls xs id t)) 2 _ [] [] ⟨rfl, rfl, rfl⟩ rfl (by trivial) (by rw [e]; trivial)
 have hlt : i < xs.length := by simp at h; omega
 have hP : owP ls t id xs[i] = (decide (xs[i].time ≤ t) && decide (rtA ls t xs[i].id = rtA ls t id)) := rfl
 have hg := List.getElem?_eq_getElem hlt
 have hsome : owP ls t id xs[i] = true → owI ls xs id t = (i : Int) := fun h => by unfold owI; rw [owO_some hlt h fun j hj => hno j (by omega) hj]
 have hnext : owP ls t id xs[i] = false → i + 1 ≤ xs.length ∧ ∀ j (h : j < xs.length), j < i + 1 → owP ls t id xs[j] = false := fun h0 => ⟨hlt, fun j h hj => by
  rcases Nat.lt_or_ge j i with h1 | h1
  ·exact hno j h h1
  ·have : j = i := by omega
   subst this
   exact h0⟩
 generalize xs[i] = x at *
 conv=>whnf
 refine AIn.mk' i rfl (lmZ hlt) ?_
 conv=>whnf
 refine ARd.mapAt hg ?_
 conv=>whnf
 refine vif_split (fun h1 => ?_) (fun h1 => ?_)
 rotate_left 1
 ·conv=>whnf
  refine AAr.i64 (by omega) ?_
  conv=>whnf
  exact aback (i + 1) [] [] rfl (by show xs.length - (i + 1) < xs.length - i; omega) (hnext (by rw [hP, decide_eq_false (by simpa using h1)]; rfl)) (by trivial) (by trivial)
 conv=>whnf
 refine acallM [0, 1] [] (by kernel_rfl) (jrootA ls (t :: ts) t x.id hl) rfl (by trivial) (by trivial) ?_
 rintro _ _ _ ⟨rfl, rfl, rfl⟩
 refine ⟨rfl, ?_⟩
 rw [Tm_two]
 conv=>whnf
 refine vif_split (fun h2 => ?_) (fun h2 => ?_)
 ·have h3 := (sEq_iff _ _).1 h2
  have e := hsome (by rw [hP, decide_eq_true (by simpa using h1), decide_eq_true h3]; rfl)
  conv=>whnf
  exact aend (iv (owI ls xs id t)) 2 _ [] [] ⟨rfl, rfl, rfl⟩ rfl (by trivial) (by rw [e]; trivial)
 ·have h3 : ¬ rtA ls t x.id = rtA ls t id := fun e => by rw [(sEq_iff _ _).2 e] at h2; cases h2
  conv=>whnf
  refine AAr.i64 (by omega) ?_
  conv=>whnf
  exact aback (i + 1) [] [] rfl (by show xs.length - (i + 1) < xs.length - i; omega) (hnext (by rw [hP, decide_eq_false h3, Bool.and_false])) (by trivial) (by trivial)
theorem ownerOA (ls : List Lk) (ts : List Int) (xs : List Ex) (id : By) (t : Int) (hl : ls.length ≤ 50000) (hx : xs.length ≤ 100000) : AFn Tryz.prog G 74 [.ptr 0 0, .own 2, tv id, iv t] 3 [(0, ppB ls), (1, .imap (Tm ls ts)), (2, .rows 60 6 (xs.map exF))] (fun a n H => a = iv (owI ls xs id t) ∧ n = 3 ∧ H = [(0, ppB ls), (1, .imap (Tm ls (t :: ts))), (2, .rows 60 6 (xs.map exF))]) := by
 refine afn_of Tryz.func74 rfl mixed (by kernel_rfl) ?_
 conv=>whnf
 refine acallM [0, 1] [] (by kernel_rfl) (jrootA ls ts t id hl) rfl (by trivial) (by trivial) ?_
 rintro _ _ _ ⟨rfl, rfl, rfl⟩
 refine ⟨rfl, ?_⟩
 conv=>whnf
 refine aloop ws74_1 3 [18] (fun i : Nat => [(18, iv i)]) (fun i => [(0, ppB ls), (1, .imap (Tm ls (t :: ts))), (2, .rows 60 6 (xs.map exF))]) (fun i => i ≤ xs.length ∧ ∀ j (h : j < xs.length), j < i → owP ls t id xs[j] = false) (fun i => xs.length - i) [] [] 0 (by kernel_rfl) (fun _ => rfl) rfl ⟨Nat.zero_le _, fun j _ h => absurd h (Nat.not_lt_zero j)⟩ (by trivial) (by trivial) ?_
 rintro i ⟨hi, hno⟩
 conv=>whnf
 apply vif_split <;> intro h
 rotate_left 1
 ·have hie : i = xs.length := by simp at h; omega
  subst hie
  have e : owI ls xs id t = -1 := by unfold owI; rw [owO_none fun j h => hno j h h]
  conv=>whnf
  exact aend (iv (owI ls xs id t)) 3 _ [] [] ⟨rfl, rfl, rfl⟩ rfl (by trivial) (by rw [e]; trivial)
 have hlt : i < xs.length := by simp at h; omega
 have hP : owP ls t id xs[i] = (decide (xs[i].time ≤ t) && decide (rtA ls t xs[i].id = rtA ls t id)) := rfl
 have hg := List.getElem?_eq_getElem hlt
 have hsome : owP ls t id xs[i] = true → owI ls xs id t = (i : Int) := fun h => by unfold owI; rw [owO_some hlt h fun j hj => hno j (by omega) hj]
 have hnext : owP ls t id xs[i] = false → i + 1 ≤ xs.length ∧ ∀ j (h : j < xs.length), j < i + 1 → owP ls t id xs[j] = false := fun h0 => ⟨hlt, fun j h hj => by
  rcases Nat.lt_or_ge j i with h1 | h1
  ·exact hno j h h1
  ·have : j = i := by omega
   subst this
   exact h0⟩
 generalize xs[i] = x at *
 conv=>whnf
 refine AIn.mk' i rfl (lmZ hlt) ?_
 conv=>whnf
 refine ARd.mapAt hg ?_
 conv=>whnf
 refine vif_split (fun h1 => ?_) (fun h1 => ?_)
 rotate_left 1
 ·conv=>whnf
  refine AAr.i64 (by omega) ?_
  conv=>whnf
  exact aback (i + 1) [] [] rfl (by show xs.length - (i + 1) < xs.length - i; omega) (hnext (by rw [hP, decide_eq_false (by simpa using h1)]; rfl)) (by trivial) (by trivial)
 conv=>whnf
 refine acallM [0, 1] [] (by kernel_rfl) (jrootA ls (t :: ts) t x.id hl) rfl (by trivial) (by trivial) ?_
 rintro _ _ _ ⟨rfl, rfl, rfl⟩
 refine ⟨rfl, ?_⟩
 rw [Tm_two]
 conv=>whnf
 refine vif_split (fun h2 => ?_) (fun h2 => ?_)
 ·have h3 := (sEq_iff _ _).1 h2
  have e := hsome (by rw [hP, decide_eq_true (by simpa using h1), decide_eq_true h3]; rfl)
  conv=>whnf
  exact aend (iv (owI ls xs id t)) 3 _ [] [] ⟨rfl, rfl, rfl⟩ rfl (by trivial) (by rw [e]; trivial)
 ·have h3 : ¬ rtA ls t x.id = rtA ls t id := fun e => by rw [(sEq_iff _ _).2 e] at h2; cases h2
  conv=>whnf
  refine AAr.i64 (by omega) ?_
  conv=>whnf
  exact aback (i + 1) [] [] rfl (by show xs.length - (i + 1) < xs.length - i; omega) (hnext (by rw [hP, decide_eq_false h3, Bool.and_false])) (by trivial) (by trivial)
theorem jfirstA (ls : List Lk) (ts : List Int) (l : List Ev) (name : By) (hls : ls.length ≤ 50000) (hl : l.length ≤ 50000) : AFn Tryz.prog G 65 [.ptr 0 0, el l, tv name] 2 [(0, ppB ls), (1, .imap (Tm ls ts))] (fun a n H => a = exL (fstX ls name (ofK 1 l)) ∧ n = 2 ∧ H = [(0, ppB ls), (1, .imap (Tm ls (tsF name ts (ofK 1 l))))]) := by
 refine afnY_of Tryz.func65 rfl mixed (by kernel_rfl) ?_
 conv=>whnf
 (refine acallF [] (by kernel_rfl) (jofA G l 1) ?_ ?_; (focus trivial))
 rintro _ _ _ ⟨rfl, rfl, rfl⟩
 have hol := ofK_le 1 l
 conv=>whnf
 refine arange (jofI G l 1 (by omega)) 6 (fun i => [(0, ppB ls), (1, .imap (Tm ls (tsF name ts ((ofK 1 l).take i)))), (2, .var 112 [.ptr 0 0]), (3, .var 9 [tv name]), (4, .var 57 [.own 5]), (5, .rows 60 6 ((fstX ls name ((ofK 1 l).take i)).map exF))]) [(5, .nil)] [] rfl (by kernel_rfl) rfl (fun x hx => rng_1 x hx) rfl (by trivial) (fun i x hx => ?_) ?_
 ·obtain ⟨hi, rfl⟩ := rng_at hx
  have hsn : (ofK 1 l).take (i + 1) = (ofK 1 l).take i ++ [(ofK 1 l)[i]] := List.take_succ_eq_append_getElem hi
  have h1 := fstX_snoc ls name ((ofK 1 l).take i) (ofK 1 l)[i]
  have h2 := tsF_snoc name ts ((ofK 1 l).take i) (ofK 1 l)[i]
  have h3 := fstX_len ls name ((ofK 1 l).take i)
  rw [List.length_take] at h3
  rw [← hsn] at h1 h2
  generalize (ofK 1 l)[i] = e at *
  generalize fstX ls name ((ofK 1 l).take i) = o at *
  generalize tsF name ts ((ofK 1 l).take i) = ts' at *
  unfold fstN at h1
  unfold tsN at h2
  conv=>whnf
  apply vif_split <;> intro h
  rotate_left 1
  ·have hne : ¬ e.name = name := by simpa [sEq_tx] using h
   rw [if_neg (fun h => hne h.1)] at h1
   rw [if_neg hne] at h2
   conv=>whnf
   refine arback [(5, .lab 5)] [] rfl ⟨(by trivial), ?_, (by trivial), (by trivial), (by trivial), ?_, trivial⟩
   ·show Tm ls ts' = Tm ls _; rw [h2]
   ·exact ⟨rfl, rfl, by rw [h1]⟩
  have hna : e.name = name := by simpa [sEq_tx] using h
  rw [if_pos hna] at h2
  conv=>whnf
  refine acallM [0, 1, 5] [] (by kernel_rfl) (ownerOA ls ts' o e.id e.time hls (by omega)) rfl (by trivial) (by trivial) ?_
  rintro _ _ _ ⟨rfl, rfl, rfl⟩
  refine ⟨rfl, ?_⟩
  conv=>whnf
  apply vif_split <;> intro h
  ·rw [if_pos ⟨hna, by simpa using h⟩] at h1
   conv=>whnf
   refine VReq.mk (app_ok (by simp only [List.length_map, List.length_cons, List.length_nil]; omega) (by kernel_rfl)) ?_
   conv=>whnf
   refine arback [(5, .lab 8)] [] rfl ⟨(by trivial), ?_, (by trivial), (by trivial), (by trivial), ?_, trivial⟩
   ·show Tm ls (e.time :: ts') = Tm ls _; rw [h2]
   ·refine ⟨rfl, rfl, ?_⟩
    rw [h1, List.map_append]
    rfl
  ·rw [if_neg (fun h' => by simp at h; omega)] at h1
   conv=>whnf
   refine arback [(5, .lab 5)] [] rfl ⟨(by trivial), ?_, (by trivial), (by trivial), (by trivial), ?_, trivial⟩
   ·show Tm ls (e.time :: ts') = Tm ls _; rw [h2]
   ·exact ⟨rfl, rfl, by rw [h1]⟩
 ·rw [List.length_map, List.take_length]
  conv=>whnf
  exact aend (exL (fstX ls name (ofK 1 l))) 2 _ [] [5] ⟨rfl, rfl, rfl⟩ rfl (by trivial) (by trivial)
theorem jFirstA (l : List Ev) (name : By) (hl : l.length ≤ 50000) : AFn Tryz.prog G 39 [el l, tv name] 0 [] (Is (exL (fstS l name))) := by
 have hls : (lksE l).length ≤ 50000 := by unfold lksE; rw [List.length_map]; have := ofK_le 3 l; omega
 refine afn_of Tryz.func39 rfl mixed (by kernel_rfl) ?_
 conv=>whnf
 (refine acallF [] (by kernel_rfl) (meetA l (by omega)) ?_ ?_; (focus trivial))
 rintro _ _ _ ⟨rfl, rfl, rfl⟩
 conv=>whnf
 refine acallM [0, 1] [] (by kernel_rfl) (jfirstA (lksE l) [] l name hls hl) rfl (by trivial) (by trivial) ?_
 rintro _ _ _ ⟨rfl, rfl, rfl⟩
 refine ⟨rfl, ?_⟩
 conv=>whnf
 exact aret [] (by trivial)
end
section
open Go.Proofs.YtgfgndaoocfpdaaGreatDoor.Ky
def spL : List Value := (List.range 256).map fun c => .int .u8 (spT c)
def GS : Glob := ⟨0 + 1, fun g => if g = 0 then some spL else none, fun _ => none⟩
theorem asc_of {w : World} (h : GS.holds w) : Asc w := by
 refine ⟨Nat.lt_of_lt_of_le (Nat.lt_succ_self _) h.1, fun c hc => ?_⟩
 have := (h.2.1 0 spL (by simp [GS])).2 c (.int .u8 (spT c)) (by unfold spL; rw [List.getElem?_map, List.getElem?_range hc]; rfl)
 exact this
theorem keyG1 (s : ByteArray) (h : s.size ≤ 140737488355328) : AFn Tryz.prog GS 30 [.v (.string s)] 0 [] (Is (.v (.bool (keyB s)))) := afn_of_ret (l := [.string s]) fun w hG => key1_ok s w (asc_of hG) h
theorem keyG2 (s : ByteArray) (h : s.size ≤ 140737488355328) : AFn Tryz.prog GS 32 [.v (.string s)] 0 [] (Is (.v (.bool (keyB s)))) := afn_of_ret (l := [.string s]) fun w hG => key2_ok s w h
end
section
open Go.Proofs.YtgfgndaoocfpdaaGreatDoor.Ky
def kyM (s : By) : Bool := keyB ⟨s.toArray⟩
def mtC (m : Mt) : Int :=
 if ¬ (m.kind = 1 ∨ m.kind = 2 ∨ m.kind = 3 ∨ m.kind = 4) then 7
 else if kyM m.name = false ∨ (m.kind = 4 ∧ kyM m.below = false) then 6
 else if m.window < 1 ∨ 68719476736 < m.window ∨ m.cap < 1 ∨ 1048576 < m.cap ∨ m.least < -1099511627776 ∨ 1099511627776 < m.least ∨ m.before < 0 ∨ 68719476736 < m.before then 3
 else if (m.kind ≠ 4 ∧ m.below ≠ []) ∨ (m.kind = 3 ∧ m.cap ≠ 1) then 15
 else 0
def kdV (s : By) (f : Nat) : FV := .v (.agg #[.string ⟨s.toArray⟩, .func (.func f) #[] #[]])
def KM : Int → Option FV := fun k =>
 if k = 4 then some (kdV [114, 97, 116, 105, 111] 89) else
 if k = 3 then some (kdV [115, 104, 97, 114, 101] 90) else
 if k = 2 then some (kdV [99, 111, 117, 110, 116] 90) else
 if k = 1 then some (kdV [115, 117, 109] 89) else none
section
variable {G : Glob}
theorem kindsA : AFn Tryz.prog G 59 [] 0 [] (fun a n H => a = .mp 0 ∧ n = 1 ∧ H = [(0, .imap KM)]) := by
 refine afn_of Tryz.func59 rfl mixed (by kernel_rfl) ?_
 conv=>whnf
 exact aend (.mp 0) 1 [(0, .imap KM)] [(0, .lab 0)] [] ⟨rfl, rfl, rfl⟩ rfl ⟨rfl, trivial⟩ (by trivial)
end
def plnChk : Plan := .take 1 (.take 2 (.two 0 (.two 3 (.take 4 (.take 5 (.take 6 (.one 7 (.one 8 (.take 9 .done)))))) 7 (.one 3 (.take 4 (.take 5 (.take 6 (.one 8 (.take 9 .done))))))) 7 (.one 0 (.one 3 (.take 4 (.take 5 (.take 6 (.one 8 (.take 9 .done)))))))))
theorem ALi.some {M : Int → Option FV} {k : Int} {z : Value} {K : AV → Bool → Prop} {x : FV} (h : M k = Option.some x) (c : K x.val true) : ALi M k z K := ⟨(fun e => by rw [h] at e; cases e), fun y e => by rw [h] at e; injection e with e; subst e; exact c⟩
theorem ALi.none {M : Int → Option FV} {k : Int} {z : Value} {K : AV → Bool → Prop} (h : M k = Option.none) (c : K (ofV z) false) : ALi M k z K := ⟨fun _ => c, fun y e => (by rw [h] at e; cases e)⟩
theorem mcheck1A (k : Int) (name below : By) (window cap least before : Int) (z1 : name.length ≤ 140737488355328) (z2 : below.length ≤ 140737488355328) : AFn Tryz.prog GS 31 [.agg [iv k, tv name, tv below, iv window, iv cap, iv least, iv before]] 0 [] (Is (.v (.int .i64 (mtC ⟨k, name, below, window, cap, least, before⟩)))) := by
 have k1 := keyG1 ⟨name.toArray⟩ (by show name.length ≤ _; omega)
 have k2 := keyG1 ⟨below.toArray⟩ (by show below.length ≤ _; omega)
 unfold mtC kyM
 generalize keyB ⟨name.toArray⟩ = b1 at *
 generalize keyB ⟨below.toArray⟩ = b2 at *
 clear z1 z2
 by_cases c1 : k = 1
 ·subst c1
  simp only [true_or, not_true, if_false, show ¬ (1 : Int) = 4 by decide, show ¬ (1 : Int) = 3 by decide, false_and, or_false, ne_eq, not_false_eq_true, true_and]
  refine afn_of Tryz.func31 rfl mixed (by kernel_rfl) ?_
  conv=>whnf
  refine adraw (fun _ => plnChk) [1, 2] (by kernel_rfl) ?_
  conv=>whnf
  repeat' (first
   | (refine And.intro ?_ ?_ <;> (conv=>whnf))
   | (refine acallF [] (by kernel_rfl) kindsA ?_ ?_; (focus (trivial; done)); rintro _ _ _ ⟨rfl, rfl, rfl⟩; (conv=>whnf))
   | (refine ALi.some (x := kdV [115, 117, 109] 89) rfl ?_; conv=>whnf)
   | ((refine acall [] (by kernel_rfl) (k1) rfl ?_ ?_; (focus (trivial; done)); (conv=>whnf)))
   | ((refine acall [] (by kernel_rfl) (k2) rfl ?_ ?_; (focus (trivial; done)); (conv=>whnf)))
   | (apply vif_split <;> intro h <;> (first | (exfalso; simp only [*, Bool.not_true, Bool.not_false, Bool.false_eq_true, Bool.true_eq_false, reduceCtorEq] at *; done) | (conv=>whnf))))
  all_goals (refine aret [] (ciZ ?_))
  all_goals (simp only [cond_true, cond_false, sEq_tx, Bool.not_eq_true', Bool.not_eq_false', decide_eq_true_eq, decide_eq_false_iff_not, beq_iff_eq, bne_iff_ne, beq_eq_false_iff_ne, bne_eq_false_iff_eq, ne_eq, Bool.not_eq_eq_eq_not, Bool.not_true, Bool.not_false, Decidable.not_not, gt_iff_lt, Int.not_lt] at *)
  all_goals (clear k1 k2)
  all_goals first
   | (simp_all; done)
   | (simp_all; omega)
   | ((repeat' split) <;> first | rfl | (exfalso; simp_all; done) | (exfalso; simp_all; omega))
 by_cases c2 : k = 2
 ·subst c2
  simp only [true_or, or_true, not_true, if_false, show ¬ (2 : Int) = 4 by decide, show ¬ (2 : Int) = 3 by decide, false_and, or_false, ne_eq, not_false_eq_true, true_and]
  refine afn_of Tryz.func31 rfl mixed (by kernel_rfl) ?_
  conv=>whnf
  refine adraw (fun _ => plnChk) [1, 2] (by kernel_rfl) ?_
  conv=>whnf
  repeat' (first
   | (refine And.intro ?_ ?_ <;> (conv=>whnf))
   | (refine acallF [] (by kernel_rfl) kindsA ?_ ?_; (focus (trivial; done)); rintro _ _ _ ⟨rfl, rfl, rfl⟩; (conv=>whnf))
   | (refine ALi.some (x := kdV [99, 111, 117, 110, 116] 90) rfl ?_; conv=>whnf)
   | ((refine acall [] (by kernel_rfl) (k1) rfl ?_ ?_; (focus (trivial; done)); (conv=>whnf)))
   | ((refine acall [] (by kernel_rfl) (k2) rfl ?_ ?_; (focus (trivial; done)); (conv=>whnf)))
   | (apply vif_split <;> intro h <;> (first | (exfalso; simp only [*, Bool.not_true, Bool.not_false, Bool.false_eq_true, Bool.true_eq_false, reduceCtorEq] at *; done) | (conv=>whnf))))
  all_goals (refine aret [] (ciZ ?_))
  all_goals (simp only [cond_true, cond_false, sEq_tx, Bool.not_eq_true', Bool.not_eq_false', decide_eq_true_eq, decide_eq_false_iff_not, beq_iff_eq, bne_iff_ne, beq_eq_false_iff_ne, bne_eq_false_iff_eq, ne_eq, Bool.not_eq_eq_eq_not, Bool.not_true, Bool.not_false, Decidable.not_not, gt_iff_lt, Int.not_lt] at *)
  all_goals (clear k1 k2)
  all_goals first
   | (simp_all; done)
   | (simp_all; omega)
   | ((repeat' split) <;> first | rfl | (exfalso; simp_all; done) | (exfalso; simp_all; omega))
 by_cases c3 : k = 3
 ·subst c3
  simp only [true_or, or_true, not_true, if_false, show ¬ (3 : Int) = 4 by decide, false_and, or_false, ne_eq, not_false_eq_true, true_and]
  refine afn_of Tryz.func31 rfl mixed (by kernel_rfl) ?_
  conv=>whnf
  refine adraw (fun _ => plnChk) [1, 2] (by kernel_rfl) ?_
  conv=>whnf
  repeat' (first
   | (refine And.intro ?_ ?_ <;> (conv=>whnf))
   | (refine acallF [] (by kernel_rfl) kindsA ?_ ?_; (focus (trivial; done)); rintro _ _ _ ⟨rfl, rfl, rfl⟩; (conv=>whnf))
   | (refine ALi.some (x := kdV [115, 104, 97, 114, 101] 90) rfl ?_; conv=>whnf)
   | ((refine acall [] (by kernel_rfl) (k1) rfl ?_ ?_; (focus (trivial; done)); (conv=>whnf)))
   | ((refine acall [] (by kernel_rfl) (k2) rfl ?_ ?_; (focus (trivial; done)); (conv=>whnf)))
   | (apply vif_split <;> intro h <;> (first | (exfalso; simp only [*, Bool.not_true, Bool.not_false, Bool.false_eq_true, Bool.true_eq_false, reduceCtorEq] at *; done) | (conv=>whnf))))
  all_goals (refine aret [] (ciZ ?_))
  all_goals (simp only [cond_true, cond_false, sEq_tx, Bool.not_eq_true', Bool.not_eq_false', decide_eq_true_eq, decide_eq_false_iff_not, beq_iff_eq, bne_iff_ne, beq_eq_false_iff_ne, bne_eq_false_iff_eq, ne_eq, Bool.not_eq_eq_eq_not, Bool.not_true, Bool.not_false, Decidable.not_not, gt_iff_lt, Int.not_lt] at *)
  all_goals (clear k1 k2)
  all_goals first
   | (simp_all; done)
   | (simp_all; omega)
   | ((repeat' split) <;> first | rfl | (exfalso; simp_all; done) | (exfalso; simp_all; omega))
 by_cases c4 : k = 4
 ·subst c4
  simp only [or_true, not_true, if_false, show ¬ (4 : Int) = 3 by decide, false_and, or_false, ne_eq, true_and, false_or]
  refine afn_of Tryz.func31 rfl mixed (by kernel_rfl) ?_
  conv=>whnf
  refine adraw (fun _ => plnChk) [1, 2] (by kernel_rfl) ?_
  conv=>whnf
  repeat' (first
   | (refine And.intro ?_ ?_ <;> (conv=>whnf))
   | (refine acallF [] (by kernel_rfl) kindsA ?_ ?_; (focus (trivial; done)); rintro _ _ _ ⟨rfl, rfl, rfl⟩; (conv=>whnf))
   | (refine ALi.some (x := kdV [114, 97, 116, 105, 111] 89) rfl ?_; conv=>whnf)
   | ((refine acall [] (by kernel_rfl) (k1) rfl ?_ ?_; (focus (trivial; done)); (conv=>whnf)))
   | ((refine acall [] (by kernel_rfl) (k2) rfl ?_ ?_; (focus (trivial; done)); (conv=>whnf)))
   | (apply vif_split <;> intro h <;> (first | (exfalso; simp only [*, Bool.not_true, Bool.not_false, Bool.false_eq_true, Bool.true_eq_false, reduceCtorEq] at *; done) | (conv=>whnf))))
  all_goals (refine aret [] (ciZ ?_))
  all_goals (simp only [cond_true, cond_false, sEq_tx, Bool.not_eq_true', Bool.not_eq_false', decide_eq_true_eq, decide_eq_false_iff_not, beq_iff_eq, bne_iff_ne, beq_eq_false_iff_ne, bne_eq_false_iff_eq, ne_eq, Bool.not_eq_eq_eq_not, Bool.not_true, Bool.not_false, Decidable.not_not, gt_iff_lt, Int.not_lt] at *)
  all_goals (clear k1 k2)
  all_goals first
   | (simp_all; done)
   | (simp_all; omega)
   | ((repeat' split) <;> first | rfl | (exfalso; simp_all; done) | (exfalso; simp_all; omega))
 have hno : KM k = none := by unfold KM; rw [if_neg c4, if_neg c3, if_neg c2, if_neg c1]
 rw [if_pos (by simp [c1, c2, c3, c4])]
 ·skip
  refine afn_of Tryz.func31 rfl mixed (by kernel_rfl) ?_
  conv=>whnf
  refine adraw (fun _ => plnChk) [1, 2] (by kernel_rfl) ?_
  conv=>whnf
  repeat' (first
   | (refine And.intro ?_ ?_ <;> (conv=>whnf))
   | (refine acallF [] (by kernel_rfl) kindsA ?_ ?_; (focus (trivial; done)); rintro _ _ _ ⟨rfl, rfl, rfl⟩; (conv=>whnf))
   | (refine ALi.none hno ?_; conv=>whnf)
   | ((refine acall [] (by kernel_rfl) (k1) rfl ?_ ?_; (focus (trivial; done)); (conv=>whnf)))
   | ((refine acall [] (by kernel_rfl) (k2) rfl ?_ ?_; (focus (trivial; done)); (conv=>whnf)))
   | (apply vif_split <;> intro h <;> (first | (exfalso; simp only [*, Bool.not_true, Bool.not_false, Bool.false_eq_true, Bool.true_eq_false, reduceCtorEq] at *; done) | (conv=>whnf))))
  all_goals (refine aret [] (ciZ ?_))
  all_goals (simp only [cond_true, cond_false, sEq_tx, Bool.not_eq_true', Bool.not_eq_false', decide_eq_true_eq, decide_eq_false_iff_not, beq_iff_eq, bne_iff_ne, beq_eq_false_iff_ne, bne_eq_false_iff_eq, ne_eq, Bool.not_eq_eq_eq_not, Bool.not_true, Bool.not_false, Decidable.not_not, gt_iff_lt, Int.not_lt] at *)
  all_goals (clear k1 k2)
  all_goals first
   | (simp_all; done)
   | (simp_all; omega)
   | ((repeat' split) <;> first | rfl | (exfalso; simp_all; done) | (exfalso; simp_all; omega))
theorem mwA (n a b : Int) : AFn Tryz.prog GS 62 [iv n, iv a, iv b] 0 [] (Is (bv (decide (a ≤ n) && decide (n ≤ b)))) := by
 refine afn_of Tryz.func62 rfl mixed (by kernel_rfl) ?_
 conv=>whnf
 repeat' (apply vif_split <;> intro h <;> (conv=>whnf))
 all_goals (refine aret [] (congrArg Value.bool ?_))
 all_goals (simp_all; try omega)
theorem mcheck2A (k : Int) (name below : By) (window cap least before : Int) (z1 : name.length ≤ 140737488355328) (z2 : below.length ≤ 140737488355328) : AFn Tryz.prog GS 34 [.agg [iv k, tv name, tv below, iv window, iv cap, iv least, iv before]] 0 [] (Is (.v (.int .i64 (mtC ⟨k, name, below, window, cap, least, before⟩)))) := by
 have k1 := keyG2 ⟨name.toArray⟩ (by show name.length ≤ _; omega)
 have k2 := keyG2 ⟨below.toArray⟩ (by show below.length ≤ _; omega)
 unfold mtC kyM
 generalize keyB ⟨name.toArray⟩ = b1 at *
 generalize keyB ⟨below.toArray⟩ = b2 at *
 clear z1 z2
 by_cases c1 : k = 1
 ·subst c1
  simp only [true_or, not_true, if_false, show ¬ (1 : Int) = 4 by decide, show ¬ (1 : Int) = 3 by decide, false_and, or_false, ne_eq, not_false_eq_true, true_and]
  refine afn_of Tryz.func34 rfl mixed (by kernel_rfl) ?_
  conv=>whnf
  repeat' (first
   | ((refine acall [] (by kernel_rfl) (mwA 1 1 4) rfl ?_ ?_; (focus (trivial; done)); (conv=>whnf)))
   | ((refine acall [] (by kernel_rfl) (k1) rfl ?_ ?_; (focus (trivial; done)); (conv=>whnf)))
   | ((refine acall [] (by kernel_rfl) (k2) rfl ?_ ?_; (focus (trivial; done)); (conv=>whnf)))
   | ((refine acall [] (by kernel_rfl) (mwA window 1 68719476736) rfl ?_ ?_; (focus (trivial; done)); (conv=>whnf)))
   | ((refine acall [] (by kernel_rfl) (mwA cap 1 1048576) rfl ?_ ?_; (focus (trivial; done)); (conv=>whnf)))
   | ((refine acall [] (by kernel_rfl) (mwA least (-1099511627776) 1099511627776) rfl ?_ ?_; (focus (trivial; done)); (conv=>whnf)))
   | ((refine acall [] (by kernel_rfl) (mwA before 0 68719476736) rfl ?_ ?_; (focus (trivial; done)); (conv=>whnf)))
   | (apply vif_split <;> intro h <;> (first | (exfalso; simp only [*, Bool.not_true, Bool.not_false, Bool.false_eq_true, Bool.true_eq_false, reduceCtorEq] at *; done) | (conv=>whnf))))
  all_goals (refine aret [] (ciZ ?_))
  all_goals (simp only [cond_true, cond_false, sEq_tx, Bool.not_eq_true', Bool.not_eq_false', decide_eq_true_eq, decide_eq_false_iff_not, beq_iff_eq, bne_iff_ne, beq_eq_false_iff_ne, bne_eq_false_iff_eq, ne_eq, Bool.not_eq_eq_eq_not, Bool.not_true, Bool.not_false, Decidable.not_not, gt_iff_lt, Int.not_lt] at *)
  all_goals (clear k1 k2)
  all_goals first
   | (simp_all; done)
   | (simp_all; omega)
   | ((repeat' split) <;> first | rfl | (exfalso; simp_all; done) | (exfalso; simp_all; omega))
 by_cases c2 : k = 2
 ·subst c2
  simp only [true_or, or_true, not_true, if_false, show ¬ (2 : Int) = 4 by decide, show ¬ (2 : Int) = 3 by decide, false_and, or_false, ne_eq, not_false_eq_true, true_and]
  refine afn_of Tryz.func34 rfl mixed (by kernel_rfl) ?_
  conv=>whnf
  repeat' (first
   | ((refine acall [] (by kernel_rfl) (mwA 2 1 4) rfl ?_ ?_; (focus (trivial; done)); (conv=>whnf)))
   | ((refine acall [] (by kernel_rfl) (k1) rfl ?_ ?_; (focus (trivial; done)); (conv=>whnf)))
   | ((refine acall [] (by kernel_rfl) (k2) rfl ?_ ?_; (focus (trivial; done)); (conv=>whnf)))
   | ((refine acall [] (by kernel_rfl) (mwA window 1 68719476736) rfl ?_ ?_; (focus (trivial; done)); (conv=>whnf)))
   | ((refine acall [] (by kernel_rfl) (mwA cap 1 1048576) rfl ?_ ?_; (focus (trivial; done)); (conv=>whnf)))
   | ((refine acall [] (by kernel_rfl) (mwA least (-1099511627776) 1099511627776) rfl ?_ ?_; (focus (trivial; done)); (conv=>whnf)))
   | ((refine acall [] (by kernel_rfl) (mwA before 0 68719476736) rfl ?_ ?_; (focus (trivial; done)); (conv=>whnf)))
   | (apply vif_split <;> intro h <;> (first | (exfalso; simp only [*, Bool.not_true, Bool.not_false, Bool.false_eq_true, Bool.true_eq_false, reduceCtorEq] at *; done) | (conv=>whnf))))
  all_goals (refine aret [] (ciZ ?_))
  all_goals (simp only [cond_true, cond_false, sEq_tx, Bool.not_eq_true', Bool.not_eq_false', decide_eq_true_eq, decide_eq_false_iff_not, beq_iff_eq, bne_iff_ne, beq_eq_false_iff_ne, bne_eq_false_iff_eq, ne_eq, Bool.not_eq_eq_eq_not, Bool.not_true, Bool.not_false, Decidable.not_not, gt_iff_lt, Int.not_lt] at *)
  all_goals (clear k1 k2)
  all_goals first
   | (simp_all; done)
   | (simp_all; omega)
   | ((repeat' split) <;> first | rfl | (exfalso; simp_all; done) | (exfalso; simp_all; omega))
 by_cases c3 : k = 3
 ·subst c3
  simp only [true_or, or_true, not_true, if_false, show ¬ (3 : Int) = 4 by decide, false_and, or_false, ne_eq, not_false_eq_true, true_and]
  refine afn_of Tryz.func34 rfl mixed (by kernel_rfl) ?_
  conv=>whnf
  repeat' (first
   | ((refine acall [] (by kernel_rfl) (mwA 3 1 4) rfl ?_ ?_; (focus (trivial; done)); (conv=>whnf)))
   | ((refine acall [] (by kernel_rfl) (k1) rfl ?_ ?_; (focus (trivial; done)); (conv=>whnf)))
   | ((refine acall [] (by kernel_rfl) (k2) rfl ?_ ?_; (focus (trivial; done)); (conv=>whnf)))
   | ((refine acall [] (by kernel_rfl) (mwA window 1 68719476736) rfl ?_ ?_; (focus (trivial; done)); (conv=>whnf)))
   | ((refine acall [] (by kernel_rfl) (mwA cap 1 1048576) rfl ?_ ?_; (focus (trivial; done)); (conv=>whnf)))
   | ((refine acall [] (by kernel_rfl) (mwA least (-1099511627776) 1099511627776) rfl ?_ ?_; (focus (trivial; done)); (conv=>whnf)))
   | ((refine acall [] (by kernel_rfl) (mwA before 0 68719476736) rfl ?_ ?_; (focus (trivial; done)); (conv=>whnf)))
   | (apply vif_split <;> intro h <;> (first | (exfalso; simp only [*, Bool.not_true, Bool.not_false, Bool.false_eq_true, Bool.true_eq_false, reduceCtorEq] at *; done) | (conv=>whnf))))
  all_goals (refine aret [] (ciZ ?_))
  all_goals (simp only [cond_true, cond_false, sEq_tx, Bool.not_eq_true', Bool.not_eq_false', decide_eq_true_eq, decide_eq_false_iff_not, beq_iff_eq, bne_iff_ne, beq_eq_false_iff_ne, bne_eq_false_iff_eq, ne_eq, Bool.not_eq_eq_eq_not, Bool.not_true, Bool.not_false, Decidable.not_not, gt_iff_lt, Int.not_lt] at *)
  all_goals (clear k1 k2)
  all_goals first
   | (simp_all; done)
   | (simp_all; omega)
   | ((repeat' split) <;> first | rfl | (exfalso; simp_all; done) | (exfalso; simp_all; omega))
 by_cases c4 : k = 4
 ·subst c4
  simp only [or_true, not_true, if_false, show ¬ (4 : Int) = 3 by decide, false_and, or_false, ne_eq, true_and, false_or]
  refine afn_of Tryz.func34 rfl mixed (by kernel_rfl) ?_
  conv=>whnf
  repeat' (first
   | ((refine acall [] (by kernel_rfl) (mwA 4 1 4) rfl ?_ ?_; (focus (trivial; done)); (conv=>whnf)))
   | ((refine acall [] (by kernel_rfl) (k1) rfl ?_ ?_; (focus (trivial; done)); (conv=>whnf)))
   | ((refine acall [] (by kernel_rfl) (k2) rfl ?_ ?_; (focus (trivial; done)); (conv=>whnf)))
   | ((refine acall [] (by kernel_rfl) (mwA window 1 68719476736) rfl ?_ ?_; (focus (trivial; done)); (conv=>whnf)))
   | ((refine acall [] (by kernel_rfl) (mwA cap 1 1048576) rfl ?_ ?_; (focus (trivial; done)); (conv=>whnf)))
   | ((refine acall [] (by kernel_rfl) (mwA least (-1099511627776) 1099511627776) rfl ?_ ?_; (focus (trivial; done)); (conv=>whnf)))
   | ((refine acall [] (by kernel_rfl) (mwA before 0 68719476736) rfl ?_ ?_; (focus (trivial; done)); (conv=>whnf)))
   | (apply vif_split <;> intro h <;> (first | (exfalso; simp only [*, Bool.not_true, Bool.not_false, Bool.false_eq_true, Bool.true_eq_false, reduceCtorEq] at *; done) | (conv=>whnf))))
  all_goals (refine aret [] (ciZ ?_))
  all_goals (simp only [cond_true, cond_false, sEq_tx, Bool.not_eq_true', Bool.not_eq_false', decide_eq_true_eq, decide_eq_false_iff_not, beq_iff_eq, bne_iff_ne, beq_eq_false_iff_ne, bne_eq_false_iff_eq, ne_eq, Bool.not_eq_eq_eq_not, Bool.not_true, Bool.not_false, Decidable.not_not, gt_iff_lt, Int.not_lt] at *)
  all_goals (clear k1 k2)
  all_goals first
   | (simp_all; done)
   | (simp_all; omega)
   | ((repeat' split) <;> first | rfl | (exfalso; simp_all; done) | (exfalso; simp_all; omega))
 rw [if_pos (by simp [c1, c2, c3, c4])]
 have hb : (decide (1 ≤ k) && decide (k ≤ 4)) = false := by
  rw [Bool.and_eq_false_iff, decide_eq_false_iff_not, decide_eq_false_iff_not]; omega
 refine afn_of Tryz.func34 rfl mixed (by kernel_rfl) ?_
 conv=>whnf
 (refine acall [] (by kernel_rfl) (mwA k 1 4) rfl ?_ ?_; (focus trivial))
 rw [hb]
 conv=>whnf
 exact aret [] (by trivial)
theorem mchk1 (m : Mt) (z1 : m.name.length ≤ 140737488355328) (z2 : m.below.length ≤ 140737488355328) : AFn Tryz.prog GS 31 [mtA m] 0 [] (Is (iv (mtC m))) := mcheck1A m.kind m.name m.below m.window m.cap m.least m.before z1 z2
theorem mchk2 (m : Mt) (z1 : m.name.length ≤ 140737488355328) (z2 : m.below.length ≤ 140737488355328) : AFn Tryz.prog GS 34 [mtA m] 0 [] (Is (iv (mtC m))) := mcheck2A m.kind m.name m.below m.window m.cap m.least m.before z1 z2
end
structure Hl where
 m : Mt
 lo : Int
 hi : Int
structure Pn where
 exp : By
 stages : Int
 needed : Int
 hold : Int
 level : Int
 health : List Hl
structure Ac where
 mark : Int
 kind : Int
 stage : Int
 ctl : Int
 trt : Int
 wealth : Int
 health : Int
def acF (a : Ac) : List FV := [iF a.mark, iF a.kind, iF a.stage, iF a.ctl, iF a.trt, iF a.wealth, iF a.health]
abbrev acL (l : List Ac) : AV := .lst 7 (l.map acF)
def acA (a : Ac) : AV := .agg ((acF a).map FV.up)
def hlF (h : Hl) : List FV := mtF h.m ++ [iF h.lo, iF h.hi]
abbrev hlL (l : List Hl) : AV := .lst 9 (l.map hlF)
def pnA (p : Pn) : AV := .agg [.v (.string ⟨p.exp.toArray⟩), iv p.stages, iv p.needed, iv p.hold, iv p.level, hlL p.health]
def finS (l : List Ev) (name : By) (mark : Int) : List Ex := (fstS l name).filter fun x => decide (x.time < mark)
def armN (x : List Ex) (since arm : Int) : Nat := (x.filter fun e => decide (since ≤ e.time) && decide (e.arm = arm)).length
def lastD (l : List Int) : Int := l.getLastD 4294967296
def scrS (l : List Ev) (w : List Wg) (name : By) (m : Mt) (mark : Int) : List Sc := allS (if mtC m = 0 then smpS l name m mark else []) w m.cap (decide (0 < m.before))
def illP (l : List Ev) (w : List Wg) (p : Pn) (mark : Int) (h : Hl) : Bool :=
 decide (uppS (scrS l w p.exp h.m mark) p.level < h.lo) || decide (h.hi < lowS (scrS l w p.exp h.m mark) p.level)
def illT (f : Hl → Bool) : List Hl → Nat → Int
 | [], _ => -1
 | h :: r, i => if f h = true then (i : Int) else illT f r (i + 1)
def illS (l : List Ev) (w : List Wg) (p : Pn) (mark : Int) : Int := illT (illP l w p mark) p.health 0
def lookG (p : Pn) (l : List Ev) (w : List Wg) (stage since mark : Int) : Ac :=
 let x := finS l p.exp mark
 let a : Int := armN x since 1
 let b : Int := armN x since 2
 let k := lastD (balS x w)
 if 0 < alrS x w p.level then ⟨mark, 3, stage, a, b, k, -1⟩
 else
  let i := illS l w p mark
  if 0 ≤ i then ⟨mark, 4, stage, a, b, k, i⟩
  else if a + b < p.needed ∨ (mark - since) % 18446744073709551616 < p.hold then ⟨mark, 1, stage, a, b, k, -1⟩
  else if p.stages - 1 ≤ stage then ⟨mark, 5, stage, a, b, k, -1⟩
  else ⟨mark, 2, stage, a, b, k, -1⟩
def plE (p : Pn) : Prop := p.stages < 1 ∨ 10 < p.stages ∨ p.needed < 0 ∨ 512 < p.needed ∨ p.hold < 0 ∨ 68719476736 < p.hold ∨ p.level < 1 ∨ 999 < p.level
instance (p : Pn) : Decidable (plE p) := by unfold plE; infer_instance
def hlC (h : Hl) : Int := if mtC h.m ≠ 0 then mtC h.m else if h.m.kind = 4 then 15 else if h.lo < -1000 ∨ 1000 < h.hi ∨ h.hi < h.lo then 3 else 0
def hlsC : List Hl → Int
 | [] => 0
 | h :: r => if hlC h ≠ 0 then hlC h else hlsC r
def pnC (p : Pn) : Int := if kyM p.exp = false then 6 else if plE p then 3 else if 4 < p.health.length then 5 else hlsC p.health
def ac0 : Ac := ⟨0, 0, 0, 0, 0, 0, 0⟩
def lookS (p : Pn) (l : List Ev) (w : List Wg) (stage since mark : Int) : Ac := if pnC p ≠ 0 ∨ mark < since then ac0 else lookG p l w stage since mark
def runR (look : Int → Int → Int → Ac) : List Int → Int → Int → Int → Nat → List Ac
 | [], _, _, _, _ => []
 | m :: r, st, si, la, n =>
  if m < la then runR look r st si la n
  else if n = 30 then []
  else look st si m :: (if (look st si m).kind = 2 then runR look r (st + 1) m m (n + 1)
   else if 3 ≤ (look st si m).kind ∧ (look st si m).kind ≤ 5 then [] else runR look r st si m (n + 1))
def runS (p : Pn) (l : List Ev) (w : List Wg) (marks : List Int) : List Ac :=
 if pnC p ≠ 0 then [] else match marks with
  | [] => []
  | m :: r => runR (lookS p l w) (m :: r) 0 m m 0
section
open Go.Proofs.YtgfgndaoocfpdaaGreatDoor.Ky
structure PnZ (p : Pn) : Prop where
 exp : p.exp.length ≤ 140737488355328
 hl : p.health.length ≤ 1000000000000
 m : ∀ h ∈ p.health, h.m.name.length ≤ 140737488355328 ∧ h.m.below.length ≤ 140737488355328
theorem hlsC_drop {l : List Hl} {i : Nat} (h : i < l.length) : hlsC (l.drop i) = if hlC l[i] ≠ 0 then hlC l[i] else hlsC (l.drop (i + 1)) := by
 rw [List.drop_eq_getElem_cons h]; rfl
def pnB (p : Pn) : ABlk := .var 24 [tv p.exp, iv p.stages, iv p.needed, iv p.hold, iv p.level, hlL p.health]
theorem gwA (n a b : Int) : AFn Tryz.prog GS 33 [iv n, iv a, iv b] 0 [] (Is (bv (decide (a ≤ n) && decide (n ≤ b)))) := by
 refine afn_of Tryz.func33 rfl mixed (by kernel_rfl) ?_
 conv=>whnf
 repeat' (apply vif_split <;> intro h <;> (conv=>whnf))
 all_goals (refine aret [] (congrArg Value.bool ?_))
 all_goals (simp_all; try omega)
theorem kyA1 (s : By) (h : s.length ≤ 140737488355328) : AFn Tryz.prog GS 30 [tv s] 0 [] (Is (bv (kyM s))) := keyG1 ⟨s.toArray⟩ (by show s.length ≤ _; exact h)
theorem kyA2 (s : By) (h : s.length ≤ 140737488355328) : AFn Tryz.prog GS 32 [tv s] 0 [] (Is (bv (kyM s))) := keyG2 ⟨s.toArray⟩ (by show s.length ≤ _; exact h)
attribute [local irreducible] mtC kyM
theorem gcheckA (p : Pn) (hz : PnZ p) : AFn Tryz.prog GS 12 [pnA p] 0 [] (Is (iv (pnC p))) := by
 obtain ⟨R, hR⟩ : ∃ R, R = pnC p := ⟨_, rfl⟩
 have hk := kyA1 p.exp hz.exp
 rw [← hR]
 unfold pnC at hR
 have hzl := hz.hl
 refine afn_of Tryz.func12 rfl mixed (by kernel_rfl) ?_
 conv=>whnf
 (refine acall [] (by kernel_rfl) (hk) rfl ?_ ?_; (focus trivial))
 conv=>whnf
 apply vif_split <;> intro h
 ·have hk0 : kyM p.exp = false := by simpa using h
  rw [if_pos hk0] at hR
  conv=>whnf
  exact aret [] (ciZ hR.symm)
 rw [if_neg (by simpa using h)] at hR
 by_cases hE : plE p
 ·rw [if_pos hE] at hR
  unfold plE at hE
  conv=>whnf
  repeat' (apply vif_split <;> intro h <;> (conv=>whnf))
  all_goals first
   | exact aret [] (ciZ hR.symm)
   | (exfalso; simp_all; done)
   | (exfalso; simp_all; omega)
 rw [if_neg hE] at hR
 unfold plE at hE
 conv=>whnf
 have hle : ¬ (4 : Int) < ((p.health.map hlF).length : Int) → ¬ 4 < p.health.length := fun h => by rw [List.length_map] at h; omega
 repeat' (apply vif_split <;> intro h <;> (first | (exfalso; simp only [decide_eq_true_eq, List.length_map] at h; omega) | (conv=>whnf)))
 ·rename_i h
  rw [if_pos (by simp only [decide_eq_true_eq, List.length_map] at h; omega)] at hR
  exact aret [] (ciZ hR.symm)
 rename_i h
 rw [if_neg (by simp only [decide_eq_false_iff_not, List.length_map] at h; omega)] at hR
 refine aloop ws12_1 1 [44] (fun i : Nat => [(44, iv i)]) (fun _ => [(0, pnB p)]) (fun i => i ≤ p.health.length ∧ R = hlsC (p.health.drop i)) (fun i => p.health.length - i) [] [] 0 (by kernel_rfl) (fun _ => rfl) rfl ⟨Nat.zero_le _, by rw [hR]; rfl⟩ (by trivial) (by trivial) ?_
 clear hR
 rintro i ⟨hi, hR⟩
 conv=>whnf
 apply vif_split <;> intro h
 rotate_left 1
 ·have hie : i = p.health.length := by simp at h; omega
  subst hie
  rw [List.drop_length] at hR
  conv=>whnf
  exact aret [] (ciZ hR.symm)
 have hlt : i < p.health.length := by simp at h; omega
 have hg := List.getElem?_eq_getElem hlt
 have hm := hz.m _ (List.getElem_mem hlt)
 rw [hlsC_drop hlt] at hR
 generalize p.health[i] = x at *
 unfold hlC at hR
 conv=>whnf
 refine AIn.mk' i rfl (lmZ hlt) ?_
 conv=>whnf
 refine ARd.mapAt hg ?_
 conv=>whnf
 (refine acall [] (by kernel_rfl) (mchk1 x.m hm.1 hm.2) rfl ?_ ?_; (focus trivial))
 generalize mtC x.m = c at *
 conv=>whnf
 apply vif_split <;> intro h
 ·have c0 : c ≠ 0 := by simpa using h
  rw [if_pos c0, if_pos c0] at hR
  conv=>whnf
  exact aret [] (ciZ hR.symm)
 have c0 : ¬ c ≠ 0 := by simpa using h
 rw [if_neg c0] at hR
 conv=>whnf
 apply vif_split <;> intro h
 ·have k4 : x.m.kind = 4 := by simpa using h
  rw [if_pos k4, if_pos (by decide)] at hR
  conv=>whnf
  exact aret [] (ciZ hR.symm)
 have k4 : ¬ x.m.kind = 4 := by simpa using h
 rw [if_neg k4] at hR
 by_cases hE : x.lo < -1000 ∨ 1000 < x.hi ∨ x.hi < x.lo
 ·rw [if_pos hE, if_pos (by decide)] at hR
  conv=>whnf
  repeat' (first | (apply vif_split <;> intro h <;> (conv=>whnf)))
  all_goals first
   | exact aret [] (ciZ hR.symm)
   | (exfalso; simp_all; done)
   | (exfalso; simp_all; omega)
 rw [if_neg hE, if_neg (by decide)] at hR
 conv=>whnf
 repeat' (first | (apply vif_split <;> intro h <;> (conv=>whnf)))
 all_goals first
  | (exfalso; simp_all; done)
  | (exfalso; simp_all; omega)
  | skip
 all_goals
  refine AAr.i64 (by omega) ?_
  conv=>whnf
  exact aback (i + 1) [] [] rfl (by show p.health.length - (i + 1) < p.health.length - i; omega) ⟨hlt, hR⟩ (by trivial) (by trivial)
theorem gcheck2A (p : Pn) (hz : PnZ p) : AFn Tryz.prog GS 13 [pnA p] 0 [] (Is (iv (pnC p))) := by
 obtain ⟨R, hR⟩ : ∃ R, R = pnC p := ⟨_, rfl⟩
 have hk := kyA2 p.exp hz.exp
 rw [← hR]
 unfold pnC at hR
 have hzl := hz.hl
 refine afn_of Tryz.func13 rfl mixed (by kernel_rfl) ?_
 conv=>whnf
 (refine acall [] (by kernel_rfl) (hk) rfl ?_ ?_; (focus trivial))
 conv=>whnf
 apply vif_split <;> intro h
 ·have hk0 : kyM p.exp = false := by simpa using h
  rw [if_pos hk0] at hR
  conv=>whnf
  exact aret [] (ciZ hR.symm)
 rw [if_neg (by simpa using h)] at hR
 by_cases hE : plE p
 ·rw [if_pos hE] at hR
  unfold plE at hE
  conv=>whnf
  repeat' (first
   | ((refine acall [] (by kernel_rfl) (gwA p.stages 1 10) rfl ?_ ?_; (focus (trivial; done)); (conv=>whnf)))
   | ((refine acall [] (by kernel_rfl) (gwA p.needed 0 512) rfl ?_ ?_; (focus (trivial; done)); (conv=>whnf)))
   | ((refine acall [] (by kernel_rfl) (gwA p.hold 0 68719476736) rfl ?_ ?_; (focus (trivial; done)); (conv=>whnf)))
   | ((refine acall [] (by kernel_rfl) (gwA p.level 1 999) rfl ?_ ?_; (focus (trivial; done)); (conv=>whnf)))
   | (apply vif_split <;> intro h <;> (conv=>whnf)))
  all_goals first
   | exact aret [] (ciZ hR.symm)
   | (exfalso; simp_all; done)
   | (exfalso; simp_all; omega)
 rw [if_neg hE] at hR
 unfold plE at hE
 conv=>whnf
 repeat' (first
  | ((refine acall [] (by kernel_rfl) (gwA p.stages 1 10) rfl ?_ ?_; (focus (trivial; done)); (conv=>whnf)))
  | ((refine acall [] (by kernel_rfl) (gwA p.needed 0 512) rfl ?_ ?_; (focus (trivial; done)); (conv=>whnf)))
  | ((refine acall [] (by kernel_rfl) (gwA p.hold 0 68719476736) rfl ?_ ?_; (focus (trivial; done)); (conv=>whnf)))
  | ((refine acall [] (by kernel_rfl) (gwA p.level 1 999) rfl ?_ ?_; (focus (trivial; done)); (conv=>whnf)))
  | (apply vif_split <;> intro h <;> (first | (exfalso; simp_all; done) | (exfalso; simp_all; omega) | (conv=>whnf))))
 ·rename_i h
  rw [if_pos (by simp only [decide_eq_true_eq, List.length_map] at h; omega)] at hR
  exact aret [] (ciZ hR.symm)
 rename_i h
 rw [if_neg (by simp only [decide_eq_false_iff_not, List.length_map] at h; omega)] at hR
 refine aloop ws13_1 1 [3] (fun i : Nat => [(3, iv i)]) (fun _ => [(0, pnB p)]) (fun i => i ≤ p.health.length ∧ R = hlsC (p.health.drop i)) (fun i => p.health.length - i) [] [] 0 (by kernel_rfl) (fun _ => rfl) rfl ⟨Nat.zero_le _, by rw [hR]; rfl⟩ (by trivial) (by trivial) ?_
 clear hR
 rintro i ⟨hi, hR⟩
 conv=>whnf
 apply vif_split <;> intro h
 rotate_left 1
 ·have hie : i = p.health.length := by simp at h; omega
  subst hie
  rw [List.drop_length] at hR
  conv=>whnf
  exact aret [] (ciZ hR.symm)
 have hlt : i < p.health.length := by simp at h; omega
 have hg := List.getElem?_eq_getElem hlt
 have hm := hz.m _ (List.getElem_mem hlt)
 rw [hlsC_drop hlt] at hR
 generalize p.health[i] = x at *
 unfold hlC at hR
 conv=>whnf
 refine AIn.mk' i rfl (lmZ hlt) ?_
 conv=>whnf
 refine ARd.mapAt hg ?_
 conv=>whnf
 (refine acall [] (by kernel_rfl) (mchk2 x.m hm.1 hm.2) rfl ?_ ?_; (focus trivial))
 generalize mtC x.m = c at *
 have g1 := gwA x.lo (-1000) 1000
 have g2 := gwA x.hi (-1000) 1000
 conv=>whnf
 apply vif_split <;> intro h
 ·have c0 : c ≠ 0 := by simpa using h
  rw [if_pos c0, if_pos c0] at hR
  conv=>whnf
  exact aret [] (ciZ hR.symm)
 have c0 : ¬ c ≠ 0 := by simpa using h
 rw [if_neg c0] at hR
 conv=>whnf
 apply vif_split <;> intro h
 ·have k4 : x.m.kind = 4 := by simpa using h
  rw [if_pos k4, if_pos (by decide)] at hR
  conv=>whnf
  exact aret [] (ciZ hR.symm)
 have k4 : ¬ x.m.kind = 4 := by simpa using h
 rw [if_neg k4] at hR
 by_cases hE : x.lo < -1000 ∨ 1000 < x.hi ∨ x.hi < x.lo
 ·rw [if_pos hE, if_pos (by decide)] at hR
  conv=>whnf
  repeat' (first | ((refine acall [] (by kernel_rfl) (g1) rfl ?_ ?_; (focus (trivial; done)); (conv=>whnf))) | ((refine acall [] (by kernel_rfl) (g2) rfl ?_ ?_; (focus (trivial; done)); (conv=>whnf))) | (apply vif_split <;> intro h <;> (conv=>whnf)))
  all_goals first
   | exact aret [] (ciZ hR.symm)
   | (exfalso; simp_all; done)
   | (exfalso; simp_all; omega)
 rw [if_neg hE, if_neg (by decide)] at hR
 conv=>whnf
 repeat' (first | ((refine acall [] (by kernel_rfl) (g1) rfl ?_ ?_; (focus (trivial; done)); (conv=>whnf))) | ((refine acall [] (by kernel_rfl) (g2) rfl ?_ ?_; (focus (trivial; done)); (conv=>whnf))) | (apply vif_split <;> intro h <;> (conv=>whnf)))
 all_goals first
  | (exfalso; simp_all; done)
  | (exfalso; simp_all; omega)
  | skip
 all_goals
  refine AAr.i64 (by omega) ?_
  conv=>whnf
  exact aback (i + 1) [] [] rfl (by show p.health.length - (i + 1) < p.health.length - i; omega) ⟨hlt, hR⟩ (by trivial) (by trivial)
end
end Go.Proofs.YtgfgndaoocfpdaaGreatDoor.Cl

/- The iterator join.of over events of a kind; the walks of Links and meet. Condition: sizes. -/
import Derived.Test.YtmnjmdajgilhiaaDoorJg
set_option linter.unusedVariables false
set_option linter.unusedSimpArgs false
namespace Go.Proofs.YtmnjmdajgilhiaaDoor.Cl
open Go Go.RowKit Go.Proofs Go.Proofs.YtmnjmdajgilhiaaDoor.Vc Go.Proofs.YtmnjmdajgilhiaaDoor.Ax Go.Proofs.YtmnjmdajgilhiaaDoor.Id
attribute [local irreducible] loadVar storeVar Instr.indexAt Instr.index Instr.sliceAt Instr.makeSlice Instr.lookup Instr.mapUpdate Instr.range Instr.next Instr.entry Instr.makeMap Builtin.append_ Builtin.copy_ Builtin.len_ Builtin.min_ Builtin.max_ Builtin.cap_ Builtin.delete_ Builtin.clear_ convert binOp eqGuard Op.unary Calls
theorem ofK_take {k : Int} {l : List Ev} {p : Nat} (h : p < l.length) : ofK k (l.take (p + 1)) = if l[p].kind = k then ofK k (l.take p) ++ [l[p]] else ofK k (l.take p) := by
  unfold ofK
  rw [List.take_succ_eq_append_getElem h, List.filter_append]
  by_cases hc : l[p].kind = k
  · simp [hc]
  · simp [hc]
theorem ofK_at {k : Int} {l : List Ev} {p : Nat} (h : p < l.length) (hc : l[p].kind = k) : (ofK k l)[(ofK k (l.take p)).length]? = some l[p] := by
  have e : ofK k l = ofK k (l.take p) ++ l[p] :: ofK k (l.drop (p + 1)) := by
    have h1 : l = l.take p ++ l[p] :: l.drop (p + 1) := by rw [← List.drop_eq_getElem_cons h, List.take_append_drop]
    have h2 : ofK k (l.take p ++ l[p] :: l.drop (p + 1)) = ofK k (l.take p) ++ l[p] :: ofK k (l.drop (p + 1)) := by
      unfold ofK
      rw [List.filter_append, List.filter_cons, if_pos (by simp [hc])]
    rwa [← h1] at h2
  rw [e, List.getElem?_append_right (Nat.le_refl _), Nat.sub_self]
  rfl
set_option maxHeartbeats 4000000 in
set_option maxRecDepth 100000 in
theorem jofI (G : Glob) (l : List Ev) (k : Int) (hl : l.length ≤ 1000000) : AIt Tryd.prog G 53 [.fp [.lst 10 (l.map enE)] 0, .fp [.v (.int .i64 k)] 0] ((ofK k l).map fun e => [evA e]) := by
  intro n σ F vs W lp J hG hF hr hst hkp hy h0
  match vs, hr with
  | [v1, v2], ⟨r1, r2, _⟩ =>
  cases r1 with
  | fp f1 =>
  cases r2 with
  | fp f2 =>
  cases f1 with
  | fp _ _ b1 o1 hb1 hex1 hrep1 =>
  cases f2 with
  | fp _ _ b2 o2 hb2 hex2 hrep2 =>
  obtain ⟨x1, hc1, _⟩ := hex1 0 Nat.zero_lt_one
  obtain ⟨x2, hc2, _⟩ := hex2 0 Nat.zero_lt_one
  have hx1 := hrep1 0 _ x1 rfl hc1
  have hx2 := hrep2 0 _ x2 rfl hc2
  cases hx2
  obtain ⟨oa, c, rfl, hlc, hnc, hrow⟩ := flat_src (sz := 10) (enc := enE) (c := evc) enE_evc (ARep.lst (n := n) (σ := σ) hx1) hF
  refine calls_of_vy Tryd.func53 rfl (by kernel_rfl) (Nat.le_of_ble_eq_true rfl) rfl (by kernel_rfl) ?_
  obtain ⟨k1, k2, k3⟩ := hkp 0 W h0
  have c1 : W.cell? ⟨b1, o1 + 0, none⟩ = some (.slice oa l.length c) := hc1
  conv => whnf
  refine vs_load1 rfl c1 ?_
  conv => whnf
  refine vloop (X := Nat) ws53_1 (fun p => [(8, .int .i64 p)]) (fun p w' => p ≤ l.length ∧ J (ofK k (l.take p)).length w') (fun p => l.length - p) 0 (by kernel_rfl) ⟨rfl, trivial⟩ ⟨Nat.zero_le _, h0⟩ ?_
  rintro p w' j ⟨hp, hJ⟩
  obtain ⟨m1, m2, m3⟩ := hkp _ w' hJ
  have hx' : FRep F w' (.lst 10 (l.map enE)) (.slice oa l.length c) := FRep.mono (fun b hb => ⟨hb, m3 b hb⟩) hx1
  obtain ⟨oa', c', e', _, _, hrow'⟩ := flat_src (sz := 10) (enc := enE) (c := evc) enE_evc (ARep.lst (n := n) (σ := σ) hx') (fun b hb => Nat.lt_of_lt_of_le (hF b hb) m1)
  injection e' with e1 e2 e3
  subst e1; subst e3
  have c2 : w'.cell? ⟨b2, o2 + 0, none⟩ = some (.int .i64 k) := by rw [cell_heap (m3 b2 hb2)]; exact hc2
  conv => whnf
  refine vif_split (fun h => ?_) (fun h => ?_)
  · have hlt : p < l.length := by simp at h; omega
    have hsn := ofK_take (k := k) hlt
    obtain ⟨b, o, rfl, hbl, hc⟩ := hrow'.at (by rw [recs_len evc_len]; omega)
    have hseg := recs_seg evc_len l p hlt
    conv => whnf
    (repeat (first | (refine VReq.mk (by first | decide | omega) ?_; conv => whnf) | (refine VPend.mk rfl ?_; conv => whnf) | (refine VNext.keep rfl ?_; conv => whnf) | (refine vs_slI1 _ rfl rfl rfl (by assumption) ?_; conv => whnf) | (refine vs_slI _ rfl rfl rfl (by assumption) ?_; conv => whnf) | (refine vs_arr1 _ rfl rfl rfl (by assumption) ?_; conv => whnf) | (refine vs_loadF (by with_reducible assumption) (by assumption) rfl rfl ?_; conv => whnf) | (refine vs_loadF0 (by with_reducible assumption) (by assumption) rfl rfl ?_; conv => whnf) | (refine vs_loadI (by with_reducible assumption) (by assumption) rfl ?_; conv => whnf) | (refine vs_loadB rfl (by with_reducible assumption) (by assumption) ?_; conv => whnf)))
    refine vs_loadS hc hseg rfl rfl ?_
    conv => whnf
    refine vs_storeW (Blk.new _ _ _) rfl rfl rfl ?_
    intro w3 hO3 hb3
    have hB3 : Below w'.heap.size w' w3 := (balloc (Below.refl _ _) (Nat.le_refl _) _).trans (hO3.below (Nat.le_refl _))
    have hJ3 := hst _ _ _ hJ hB3
    obtain ⟨_, _, q3⟩ := hkp _ w3 hJ3
    have c3 : w3.cell? ⟨b2, o2 + 0, none⟩ = some (.int .i64 k) := by rw [cell_heap (q3 b2 hb2)]; exact hc2
    conv => whnf
    refine vs_loadB rfl hb3 rfl ?_
    conv => whnf
    refine vs_load1 rfl c3 ?_
    conv => whnf
    refine vif_split (fun h2 => ?_) (fun h2 => ?_)
    · have hk : l[p].kind = k := by simpa using h2
      rw [if_pos hk] at hsn
      have hyk := ofK_at hlt hk
      conv => whnf
      refine vs_loadNB (l := evc l[p]) rfl rfl hb3 ?_
      conv => whnf
      obtain ⟨fn, tmps, assign, body, hyr, hR⟩ := hy (ofK k (l.take p)).length [evA l[p]] w3 [.agg (evc l[p]).toArray] (by rw [List.getElem?_map, hyk]; rfl) hJ3 ⟨RepL.agg (map_v_rep (evc l[p])), trivial⟩
      refine ⟨⟨fn, tmps, assign, body, hyr, RoundIn.mono hR ?_⟩⟩
      rintro e W2 ⟨rfl, hJ2⟩
      refine ⟨_, rfl, ?_⟩
      conv => whnf
      refine VBack.mk ⟨_, ?_, (p + 1), rfl, ⟨?_, trivial⟩, hlt, by rw [hsn, List.length_append]; exact hJ2⟩
      · show l.length - (p + 1) < l.length - p; omega
      · show Value.int .i64 (IntKind.i64.wrap ((p : Int) + 1)) = .int .i64 ((p + 1 : Nat) : Int)
        congr 1
        exact IntWalk.i64_in _ (by omega)
    · have hk : ¬ l[p].kind = k := by simpa using h2
      rw [if_neg hk] at hsn
      conv => whnf
      refine VBack.mk ⟨_, ?_, (p + 1), rfl, ⟨?_, trivial⟩, hlt, by rw [hsn]; exact hJ3⟩
      · show l.length - (p + 1) < l.length - p; omega
      · show Value.int .i64 (IntKind.i64.wrap ((p : Int) + 1)) = .int .i64 ((p + 1 : Nat) : Int)
        congr 1
        exact IntWalk.i64_in _ (by omega)
  · have hpe : p = l.length := by simp at h; omega
    subst hpe
    rw [List.take_length] at hJ
    conv => whnf
    refine ⟨?_⟩
    rw [List.length_map]
    exact hJ
set_option maxRecDepth 100000 in
theorem jofA (G : Glob) (l : List Ev) (k : Int) : AFn Tryd.prog G 41 [el l, iv k] 0 [] (Is (.fn (.func 53) [] [.fp [.lst 10 (l.map enE)] 0, .fp [.v (.int .i64 k)] 0])) := by
  refine afn_of Tryd.func41 rfl mixed (by kernel_rfl) ?_
  conv => whnf
  exact aendClo [(0, 24, [.lst 10 (l.map enE)]), (1, 3, [.v (.int .i64 k)])] ⟨rfl, rfl, rfl⟩ (fun p hp => by
    rcases List.mem_cons.1 hp with rfl | hp
    · rfl
    · rw [List.mem_singleton.1 hp]; rfl)
theorem rng_at {l : List Ev} {i : Nat} {x : List AV} (h : (l.map fun e => [evA e])[i]? = some x) : ∃ hi : i < l.length, x = [evA l[i]] := by
  rw [List.getElem?_map] at h
  cases hl : l[i]? with
  | none => rw [hl] at h; cases h
  | some e =>
    obtain ⟨hi, rfl⟩ := List.getElem?_eq_some_iff.1 hl
    rw [hl] at h
    injection h with h
    exact ⟨hi, h.symm⟩
theorem rng_1 {l : List Ev} : ∀ x ∈ l.map (fun e => [evA e]), x.length = 1 := fun x hx => by
  obtain ⟨e, _, rfl⟩ := List.mem_map.1 hx
  rfl
theorem ofK_le (k : Int) (l : List Ev) : (ofK k l).length ≤ l.length := List.length_filter_le _ _
section
variable {G : Glob}
set_option maxHeartbeats 4000000 in
set_option maxRecDepth 100000 in
theorem linksA (l : List Ev) (hl : l.length ≤ 1000000) : AFn Tryd.prog G 20 [el l] 0 [] (Is (lksA (lksE l))) := by
  refine afnY_of Tryd.func20 rfl mixed (by kernel_rfl) ?_
  conv => whnf
  (refine acallF [] (by kernel_rfl) (jofA G l 3) ?_ ?_; (focus (repeat' (first | rfl | trivial | apply And.intro))))
  rintro _ _ _ ⟨rfl, rfl, rfl⟩
  conv => whnf
  have hol := ofK_le 3 l
  refine arange (jofI G l 3 hl) 2 (fun i => [(0, .var 49 [.own 1]), (1, .rows 84 3 ((((ofK 3 l).take i).map lkE).map lkF))]) [(1, .nil)] [] rfl (by kernel_rfl) rfl (fun x hx => rng_1 x hx) rfl (by repeat' (first | rfl | trivial | apply And.intro)) (fun i x hx => ?_) ?_
  · obtain ⟨hi, rfl⟩ := rng_at hx
    have hsn : (ofK 3 l).take (i + 1) = (ofK 3 l).take i ++ [(ofK 3 l)[i]] := List.take_succ_eq_append_getElem hi
    generalize (ofK 3 l)[i] = e at *
    conv => whnf
    refine VReq.mk (app_ok (by simp only [List.length_map, List.length_take, List.length_cons, List.length_nil]; omega) (by kernel_rfl)) ?_
    conv => whnf
    refine arback [(1, .lab 4)] [] rfl ⟨(by repeat' (first | rfl | trivial | apply And.intro)), ⟨rfl, rfl, ?_⟩, trivial⟩
    rw [hsn, List.map_append, List.map_append]
    rfl
  · rw [List.length_map, List.take_length]
    conv => whnf
    exact aend (lksA (lksE l)) 0 [] [] [1] ⟨rfl, rfl, rfl⟩ rfl trivial (by repeat' (first | rfl | trivial | apply And.intro))
/-- who belongs together, as far as it was asked at the times ts -/
def kmap (ls : List Lk) (t : Int) : ByteArray → Option Value := fun id => if hasB (idsL (frs (unt t ls))) id = true then some (.string (rt (unt t ls) id)) else none
def Tm (ls : List Lk) (ts : List Int) : Int → Option FV := fun t => if t ∈ ts then some (.fm (kmap ls t)) else none
def ppB (ls : List Lk) : ABlk := .var 95 [lksA ls, .mp 1]
theorem Tm_nil (ls : List Lk) : Tm ls [] = fun _ => none := by funext t; unfold Tm; simp
theorem Tm_two (ls : List Lk) (t : Int) (ts : List Int) : Tm ls (t :: t :: ts) = Tm ls (t :: ts) := by funext k; unfold Tm; simp
theorem Tm_mem {ls : List Lk} {t : Int} {ts : List Int} (h : t ∈ ts) : Tm ls ts = Tm ls (t :: ts) := by
  funext k
  unfold Tm
  by_cases e : k = t
  · subst e; simp [h]
  · simp [e]
set_option maxRecDepth 100000 in
theorem meetA (l : List Ev) (hl : l.length ≤ 1000000) : AFn Tryd.prog G 38 [el l] 0 [] (fun a n H => a = .ptr 0 0 ∧ n = 2 ∧ H = [(0, ppB (lksE l)), (1, .imap (Tm (lksE l) []))]) := by
  refine afn_of Tryd.func38 rfl mixed (by kernel_rfl) ?_
  conv => whnf
  (refine acallF [] (by kernel_rfl) (linksA l hl) ?_ ?_; (focus (repeat' (first | rfl | trivial | apply And.intro))))
  rintro _ _ _ ⟨rfl, rfl, rfl⟩
  conv => whnf
  exact aend (.ptr 0 0) 2 _ [(0, .lab 1), (1, .lab 0)] [] ⟨rfl, rfl, rfl⟩ rfl ⟨(by repeat' (first | rfl | trivial | apply And.intro)), (Tm_nil _).symm, trivial⟩ (by repeat' (first | rfl | trivial | apply And.intro))
end
end Go.Proofs.YtmnjmdajgilhiaaDoor.Cl

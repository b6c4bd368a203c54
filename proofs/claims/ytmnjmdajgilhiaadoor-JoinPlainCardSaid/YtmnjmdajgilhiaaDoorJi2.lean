/- The law JoinPlain in plain words, and its walk. Condition: the library's table of spaces (GS). -/
import Derived.Test.YtmnjmdajgilhiaaDoorJ5
import Derived.Test.YtmnjmdajgilhiaaDoorJ6
import Derived.Test.YtmnjmdajgilhiaaDoorJd
import Derived.Test.YtmnjmdajgilhiaaDoorJy
set_option linter.unusedVariables false
set_option linter.unusedSimpArgs false
namespace Go.Proofs.YtmnjmdajgilhiaaDoor.Cl
open Go Go.RowKit Go.Proofs Go.Proofs.YtmnjmdajgilhiaaDoor.Vc Go.Proofs.YtmnjmdajgilhiaaDoor.Ax Go.Proofs.YtmnjmdajgilhiaaDoor.Ky Go.Proofs.YtmnjmdajgilhiaaDoor.Id
attribute [local irreducible] loadVar storeVar Instr.indexAt Instr.index Instr.sliceAt Instr.makeSlice Instr.lookup Instr.mapUpdate Instr.range Instr.next Instr.entry Instr.makeMap Builtin.append_ Builtin.copy_ Builtin.len_ Builtin.min_ Builtin.max_ Builtin.cap_ Builtin.delete_ Builtin.clear_ convert binOp eqGuard Op.unary Calls
theorem rtA_nil (t : Int) (id : By) : rtA [] t id = ba id := rfl
theorem owP_nil (t : Int) (id : By) (x : Ex) : owP [] t id x = (decide (x.time ≤ t) && decide (x.id = id)) := by
  unfold owP
  rw [rtA_nil, rtA_nil]
  congr 1
  exact decide_eq_decide.2 ⟨fun h => ba_inj h, fun h => by rw [h]⟩
/-- without links each id is a subject of its own -/
theorem owO_nil {xs : List Ex} (hp : xs.Pairwise (TwoX [])) {k : Nat} {x : Ex} (hx : xs[k]? = some x) (id : By) (t : Int) : owO [] xs id t = some k ↔ x.time ≤ t ∧ x.id = id := by
  obtain ⟨hk, rfl⟩ := List.getElem?_eq_some_iff.1 hx
  constructor
  · intro h
    obtain ⟨_, hq⟩ := owO_lt h
    rw [owP_nil] at hq
    simpa using hq
  · intro h
    refine owO_some hk (by rw [owP_nil]; simpa using h) fun j hj => ?_
    rw [owP_nil]
    have h2 := (List.pairwise_iff_getElem.1 hp j k (by omega) hk hj).2
    rw [rtA_nil, rtA_nil] at h2
    have : ¬ (xs[j]'(by omega)).id = id := fun e => h2 (by rw [e, h.2])
    simp [this]
def pW (e : Ev) (W : Int) (y : Ev) : Bool := decide (y.id = e.id) && (decide (y.kind = 2) && (decide (e.time ≤ y.time) && decide (y.time < e.time + W)))
def pB (e : Ev) (b : Int) (y : Ev) : Bool := decide (y.id = e.id) && (decide (y.kind = 2) && (decide (y.time < e.time) && decide (e.time - b ≤ y.time)))
def pM (e : Ev) (W : Int) (name : By) (y : Ev) : Bool := decide (y.id = e.id) && (decide (y.kind = 1) && (decide (y.name = name) && (!decide (y.arm = e.arm) && (decide (e.time ≤ y.time) && decide (y.time < e.time + W)))))
section
variable {q : List Ev} {name : By} {k : Nat} {e : Ev}
theorem plain_ins (hp : (fstS q name).Pairwise (TwoX [])) (hx : (fstS q name)[k]? = some (exE e)) (W : Int) : insE [] (fstS q name) W k (exE e) (ofK 2 q) = q.filter (pW e W) := by
  unfold insE ofK
  rw [List.filter_filter]
  apply List.filter_congr
  intro y _
  have h := owO_nil hp hx y.id y.time
  unfold pW
  rw [Bool.eq_iff_iff]
  simp only [Bool.and_eq_true, decide_eq_true_eq, h]
  constructor
  · rintro ⟨⟨⟨h1, h2⟩, h3⟩, h4⟩; exact ⟨h2.symm, h4, h1, h3⟩
  · rintro ⟨h2, h4, h1, h3⟩; exact ⟨⟨⟨h1, h2.symm⟩, h3⟩, h4⟩
theorem plain_bef (b : Int) : befE [] b (exE e) (ofK 2 q) = q.filter (pB e b) := by
  unfold befE ofK
  rw [List.filter_filter]
  apply List.filter_congr
  intro y _
  unfold pB
  rw [Bool.eq_iff_iff]
  simp only [Bool.and_eq_true, decide_eq_true_eq, rtA_nil]
  constructor
  · rintro ⟨⟨h1, h2, h3⟩, h4⟩; exact ⟨ba_inj (of_decide_eq_true h3), h4, h2, h1⟩
  · rintro ⟨h3, h4, h2, h1⟩; exact ⟨⟨h1, h2, decide_eq_true (congrArg ba h3)⟩, h4⟩
theorem plain_mix (hp : (fstS q name).Pairwise (TwoX [])) (hx : (fstS q name)[k]? = some (exE e)) (W : Int) : mixE [] (fstS q name) name W k (exE e) (ofK 1 q) = q.any (pM e W name) := by
  unfold mixE insE ofK
  rw [List.filter_filter, List.any_filter]
  congr 1
  funext y
  have h := owO_nil hp hx y.id y.time
  unfold pM
  rw [Bool.eq_iff_iff]
  simp only [Bool.and_eq_true, decide_eq_true_eq, h, Bool.not_eq_true', decide_eq_false_iff_not]
  constructor
  · rintro ⟨⟨⟨⟨h1, h2⟩, h3⟩, h4⟩, h5, h6⟩; exact ⟨h2.symm, h4, h5, h6, h1, h3⟩
  · rintro ⟨h2, h4, h5, h6, h1, h3⟩; exact ⟨⟨⟨⟨h1, h2.symm⟩, h3⟩, h4⟩, h5, h6⟩
end
/-- the first exposures of the first i events -/
def pre (q : List Ev) (name : By) (i : Nat) : List Ex := fstX [] name (ofK 1 (q.take i))
theorem pre_len (q : List Ev) (name : By) (i : Nat) : (pre q name i).length ≤ q.length := Nat.le_trans (fstX_len _ _ _) (Nat.le_trans (ofK_le 1 _) (by rw [List.length_take]; omega))
section
variable {q : List Ev} {name : By} {i : Nat} {e : Ev}
theorem pre_all (hl : lksE q = []) : pre q name q.length = fstS q name := by unfold pre fstS; rw [List.take_length, hl]
theorem pre_new (hasc : q.Pairwise fun a b => a.time ≤ b.time) (he : q[i]? = some e) (hk : e.kind = 1) (hn : e.name = name) (hs : e.id ∉ (pre q name i).map (·.id)) : pre q name (i + 1) = pre q name i ++ [exE e] := by
  obtain ⟨hi, rfl⟩ := List.getElem?_eq_some_iff.1 he
  have hb : before q[i].time (pre q name i) := fun x hx => by
    obtain ⟨e', he', rfl⟩ := fstX_from [] name _ x hx
    have he2 : e' ∈ q.take i := (List.mem_filter.1 he').1
    obtain ⟨j, hj, rfl⟩ := List.getElem_of_mem he2
    rw [List.length_take] at hj
    rw [List.getElem_take]
    exact List.pairwise_iff_getElem.1 hasc j i (by omega) hi (by omega)
  show fstX [] name (ofK 1 (q.take (i + 1))) = _
  rw [ofK_take hi, if_pos hk, fstX_snoc]
  unfold fstN
  rw [if_pos ⟨hn, (owI_neg hb).2 fun x hx h => hs (List.mem_map.2 ⟨x, hx, ba_inj h⟩)⟩]
  rfl
theorem pre_old (hasc : q.Pairwise fun a b => a.time ≤ b.time) (he : q[i]? = some e) (h : ¬ (e.kind = 1 ∧ e.name = name ∧ e.id ∉ (pre q name i).map (·.id))) : pre q name (i + 1) = pre q name i := by
  obtain ⟨hi, rfl⟩ := List.getElem?_eq_some_iff.1 he
  show fstX [] name (ofK 1 (q.take (i + 1))) = _
  rw [ofK_take hi]
  by_cases hk : q[i].kind = 1
  · rw [if_pos hk, fstX_snoc]
    unfold fstN
    rw [if_neg]
    · rfl
    rintro ⟨hn, ho⟩
    have hb : before q[i].time (pre q name i) := fun x hx => by
      obtain ⟨e', he', rfl⟩ := fstX_from [] name _ x hx
      have he2 : e' ∈ q.take i := (List.mem_filter.1 he').1
      obtain ⟨j, hj, rfl⟩ := List.getElem_of_mem he2
      rw [List.length_take] at hj
      rw [List.getElem_take]
      exact List.pairwise_iff_getElem.1 hasc j i (by omega) hi (by omega)
    refine h ⟨hk, hn, fun hm => ?_⟩
    obtain ⟨x, hx, hxe⟩ := List.mem_map.1 hm
    exact (owI_neg hb).1 ho x hx (by rw [rtA_nil, rtA_nil, hxe])
  · rw [if_neg hk]; rfl
theorem pre_at (hl : lksE q = []) (he : q[i]? = some e) (hn : pre q name (i + 1) = pre q name i ++ [exE e]) : (fstS q name)[(pre q name i).length]? = some (exE e) := by
  obtain ⟨o', h1, _⟩ := fst_more (ls := []) (name := name) (ofK 1 (q.drop (i + 1))) (pre q name (i + 1))
  have h2 : fstS q name = pre q name (i + 1) ++ o' := by
    rw [← h1]
    unfold fstS pre
    rw [hl]
    show (ofK 1 q).foldl _ [] = _
    rw [← List.take_append_drop (i + 1) q, ofK_app, List.foldl_append]
    rw [List.take_append_drop]
    rfl
  rw [h2, hn, List.append_assoc, List.getElem?_append_right (Nat.le_refl _), Nat.sub_self]
  rfl
end
/-- whether a text is in a list -/
def isIn (s : By) (L : Tx) : Bool := decide (s ∈ L)
set_option maxHeartbeats 8000000 in
set_option maxRecDepth 100000 in
theorem hasLA {G : Glob} (L : Tx) (s : By) (h : L.length ≤ 1000000) : AFn Tryd.prog G 17 [.lst 1 (L.map enT), tv s] 0 [] (Is (bv (isIn s L))) := by
  refine afn_of Tryd.func17 rfl mixed (by kernel_rfl) ?_
  conv => whnf
  refine aloop ws17_1 0 [5] (fun i : Nat => [(5, iv i)]) (fun _ => []) (fun i => i ≤ L.length ∧ s ∉ L.take i) (fun i => L.length - i) [] [] 0 (by kernel_rfl) (fun _ => rfl) rfl ⟨Nat.zero_le _, by simp⟩ (by repeat' (first | rfl | trivial | apply And.intro)) (by repeat' (first | rfl | trivial | apply And.intro)) ?_
  rintro i ⟨hi, hn⟩
  conv => whnf
  refine vif_split (fun q => ?_) (fun q => ?_)
  · have hlt : i < L.length := by simp at q; omega
    have hg := List.getElem?_eq_getElem hlt
    have hm := List.getElem_mem hlt
    have ht := List.take_succ_eq_append_getElem hlt
    generalize L[i] = y at *
    conv => whnf
    refine AIn.mk' i rfl (by rw [List.length_map]; exact hlt) ?_
    conv => whnf
    refine ARd.mapAt hg ?_
    conv => whnf
    refine vif_split (fun u => ?_) (fun u => ?_)
    · have e : y = s := by simpa [sEq_tx] using u
      conv => whnf
      exact aret [] (congrArg Value.bool (by unfold isIn; rw [← e]; simp [hm]))
    · have e : ¬ y = s := by simpa [sEq_tx] using u
      conv => whnf
      refine AAr.i64 (by omega) ?_
      conv => whnf
      refine aback (i + 1) [] [] rfl (by show L.length - (i + 1) < L.length - i; omega) ⟨hlt, ?_⟩ (by repeat' (first | rfl | trivial | apply And.intro)) (by repeat' (first | rfl | trivial | apply And.intro))
      rw [ht]
      simp only [List.mem_append, List.mem_singleton, not_or]
      exact ⟨hn, fun h => e h.symm⟩
  · have hie : i = L.length := by simp at q; omega
    subst hie
    rw [List.take_length] at hn
    conv => whnf
    exact aret [] (congrArg Value.bool (by unfold isIn; simp [hn]))
def noL (l : List Ev) : List Ev := l.filter fun e => !decide (e.kind = 3)
theorem noL_take {l : List Ev} {i : Nat} (h : i < l.length) : noL (l.take (i + 1)) = if l[i].kind = 3 then noL (l.take i) else noL (l.take i) ++ [l[i]] := by
  unfold noL
  rw [List.take_succ_eq_append_getElem h, List.filter_append]
  by_cases hc : l[i].kind = 3
  · simp [hc]
  · simp [hc]
theorem noL_lks (l : List Ev) : lksE (noL l) = [] := by
  unfold lksE ofK noL
  rw [List.filter_filter, List.map_eq_nil_iff, List.filter_eq_nil_iff]
  intro e _
  simp
theorem flt_W {q : List Ev} {j : Nat} (h : j < q.length) (e : Ev) (W : Int) : (q.take (j + 1)).filter (pW e W) = if q[j].id = e.id ∧ q[j].kind = 2 ∧ e.time ≤ q[j].time ∧ q[j].time < e.time + W then (q.take j).filter (pW e W) ++ [q[j]] else (q.take j).filter (pW e W) := by
  rw [List.take_succ_eq_append_getElem h, List.filter_append]
  by_cases hc : q[j].id = e.id ∧ q[j].kind = 2 ∧ e.time ≤ q[j].time ∧ q[j].time < e.time + W
  · rw [if_pos hc, List.filter_cons, if_pos (by unfold pW; simpa using hc)]; rfl
  · rw [if_neg hc, List.filter_cons, if_neg (by unfold pW; simpa using hc)]; simp
theorem flt_B {q : List Ev} {j : Nat} (h : j < q.length) (e : Ev) (b : Int) : (q.take (j + 1)).filter (pB e b) = if q[j].id = e.id ∧ q[j].kind = 2 ∧ q[j].time < e.time ∧ e.time - b ≤ q[j].time then (q.take j).filter (pB e b) ++ [q[j]] else (q.take j).filter (pB e b) := by
  rw [List.take_succ_eq_append_getElem h, List.filter_append]
  by_cases hc : q[j].id = e.id ∧ q[j].kind = 2 ∧ q[j].time < e.time ∧ e.time - b ≤ q[j].time
  · rw [if_pos hc, List.filter_cons, if_pos (by unfold pB; simpa using hc)]; rfl
  · rw [if_neg hc, List.filter_cons, if_neg (by unfold pB; simpa using hc)]; simp
theorem any_M {q : List Ev} {j : Nat} (h : j < q.length) (e : Ev) (W : Int) (name : By) : (q.take (j + 1)).any (pM e W name) = if q[j].id = e.id ∧ q[j].kind = 1 ∧ q[j].name = name ∧ ¬ q[j].arm = e.arm ∧ e.time ≤ q[j].time ∧ q[j].time < e.time + W then true else (q.take j).any (pM e W name) := by
  rw [List.take_succ_eq_append_getElem h, List.any_append]
  by_cases hc : q[j].id = e.id ∧ q[j].kind = 1 ∧ q[j].name = name ∧ ¬ q[j].arm = e.arm ∧ e.time ≤ q[j].time ∧ q[j].time < e.time + W
  · have : pM e W name q[j] = true := by unfold pM; simpa using hc
    rw [if_pos hc]; simp [this]
  · have : pM e W name q[j] = false := by
      rw [← Bool.not_eq_true]
      unfold pM
      simpa using hc
    rw [if_neg hc]; simp [this]
set_option maxHeartbeats 16000000 in
set_option maxRecDepth 100000 in
theorem lawPlainA (m b : By) (w1 : Nat) (hw1 : w1 < 256) : AFn Tryd.prog GS 5 [bs m, bs b, u8v w1] 0 [] (Is (bv true)) := by
  refine afn_of Tryd.func5 rfl mixed (by kernel_rfl) ?_
  conv => whnf
  (refine acallF [] (by kernel_rfl) (awakeA) ?_ ?_; (focus ((repeat' (first | rfl | trivial | apply And.intro)); done)); rintro _ _ _ ⟨rfl, rfl, rfl⟩; (conv => whnf))
  refine vif_split (fun h => ?_) (fun h => ?_)
  · conv => whnf
    exact aret [] (by repeat' (first | rfl | trivial | apply And.intro))
  have hml : m.length ≤ 300 := by simp at h; omega
  conv => whnf
  (refine acallF [] (by kernel_rfl) (eventsA m (by omega)) ?_ ?_; (focus (repeat' (first | rfl | trivial | apply And.intro))))
  rintro _ _ _ ⟨l, hP, rfl, rfl, rfl⟩
  have hlen := hP.len
  conv => whnf
  (refine acallF [] (by kernel_rfl) (metricDA b) ?_ ?_; (focus (repeat' (first | rfl | trivial | apply And.intro))))
  rintro _ _ _ ⟨M, hM, rfl, rfl, rfl⟩
  have hz1 := hM.z1
  have hz2 := hM.z2
  have hmc := hM.ok
  have hwin := hM.window
  have hbfr := hM.before
  conv => whnf
  (refine acallF [] (by kernel_rfl) (expTA) ?_ ?_; (focus (repeat' (first | rfl | trivial | apply And.intro))))
  rintro _ _ _ ⟨rfl, rfl, rfl⟩
  obtain ⟨name, hname⟩ := exp_at w1
  conv => whnf
  refine AAr.i64 (by omega) ?_
  conv => whnf
  refine VReq.mk (by decide) ?_
  conv => whnf
  refine AIn.mk' (w1 % 2) rfl (by have : w1 % 2 < 2 := Nat.mod_lt _ (by decide); show w1 % 2 < 4; omega) ?_
  conv => whnf
  refine ARd.mapAt hname ?_
  conv => whnf
  refine aloop ws5_1 3 [10, 11] (fun i : Nat => [(10, .own 2), (11, iv i)]) (fun i => [(0, .var 27 ((mtF M).map FV.up)), (2, .rows 32 10 ((noL (l.take i)).map enE))]) (fun i => i ≤ l.length) (fun i => l.length - i) [(2, .nil)] [] 0 (by kernel_rfl) (fun _ => rfl) rfl (Nat.zero_le _) (by repeat' (first | rfl | trivial | apply And.intro)) (by repeat' (first | rfl | trivial | apply And.intro)) ?_
  intro i hi
  conv => whnf
  refine vif_split (fun u => ?_) (fun u => ?_)
  · have hlt : i < l.length := by simp at u; omega
    have hg := List.getElem?_eq_getElem hlt
    have hsn := noL_take hlt
    have hnl : (noL (l.take i)).length ≤ 60 := Nat.le_trans (List.length_filter_le _ _) (by rw [List.length_take]; omega)
    generalize l[i] = e at *
    conv => whnf
    refine AIn.mk' i rfl (by rw [List.length_map]; exact hlt) ?_
    conv => whnf
    refine ARd.mapAt hg ?_
    conv => whnf
    refine vif_split (fun u1 => ?_) (fun u1 => ?_)
    · rw [if_neg (by simpa using u1)] at hsn
      conv => whnf
      repeat' (first
        | (refine AIn.mk' i rfl (by rw [List.length_map]; exact hlt) ?_; conv => whnf)
        | (refine ARd.mapAt hg ?_; conv => whnf))
      refine VReq.mk (app_ok (by simp only [List.length_map, List.length_cons, List.length_nil]; omega) (by kernel_rfl)) ?_
      conv => whnf
      refine AAr.i64 (by omega) ?_
      conv => whnf
      refine aback (i + 1) [(2, .lab 4)] [] rfl (by show l.length - (i + 1) < l.length - i; omega) hlt ⟨(by repeat' (first | rfl | trivial | apply And.intro)), ⟨rfl, rfl, ?_⟩, trivial⟩ (by repeat' (first | rfl | trivial | apply And.intro))
      rw [hsn, List.map_append]
      rfl
    · rw [if_pos (by simpa using u1)] at hsn
      conv => whnf
      refine AAr.i64 (by omega) ?_
      conv => whnf
      refine aback (i + 1) [(2, .lab 2)] [] rfl (by show l.length - (i + 1) < l.length - i; omega) hlt ⟨(by repeat' (first | rfl | trivial | apply And.intro)), ⟨rfl, rfl, ?_⟩, trivial⟩ (by repeat' (first | rfl | trivial | apply And.intro))
      rw [hsn]
  have hie : i = l.length := by simp at u; omega
  subst hie
  rw [List.take_length]
  have hB := hP.bnd
  have hql : (noL l).length ≤ 60 := Nat.le_trans (List.length_filter_le _ _) hlen
  have hqB : EvB (noL l) := ⟨by omega, fun e he => hB.time e (List.mem_filter.1 he).1, fun e he => hB.val e (List.mem_filter.1 he).1⟩
  have hqt : ∀ e ∈ noL l, 0 ≤ e.time ∧ e.time ≤ 180 := fun e he => (hP.all e (List.mem_filter.1 he).1).time
  have hqa : (noL l).Pairwise fun a b => a.time ≤ b.time := hP.asc.filter _
  have hqk := noL_lks l
  generalize noL l = q at *
  have hxt : ∀ x ∈ fstS q name, x.time + M.window ≤ 5000 := fun x hx => by
    obtain ⟨e, he, rfl⟩ := fstX_mem _ x hx
    have := hqt e (List.mem_filter.1 he).1
    show e.time + M.window ≤ 5000
    omega
  have s1 := samplesA q name M 5000 hqB hz1 hz2
  rw [if_pos hmc] at s1
  have hsl := smpS_len (m := M) (mark := 5000) hxt
  have hsg := smpS_get (m := M) (mark := 5000) hxt
  have htwo : (fstS q name).Pairwise (TwoX []) := by
    have := fstX_two (ls := lksE q) (name := name) (ofK 1 q) (hqa.filter _)
    rw [hqk] at this
    unfold fstS
    rw [hqk]
    exact this
  generalize smpS q name M 5000 = S at *
  conv => whnf
  refine acallF [2] (by kernel_rfl) s1 ?_ ?_; (focus (repeat' (first | rfl | trivial | apply And.intro)))
  rintro _ _ _ ⟨rfl, rfl, rfl⟩
  conv => whnf
  refine aloop ws5_2 4 [13, 14, 15] (fun i : Nat => [(13, iv (((pre q name i).length : Nat) : Int)), (14, .own 3), (15, iv i)]) (fun i => [(0, .var 27 ((mtF M).map FV.up)), (2, .fz 10 (q.map enE)), (3, .rows 9 1 (((pre q name i).map (·.id)).map enT))]) (fun i => i ≤ q.length) (fun i => q.length - i) [(3, .nil)] [] 0 (by kernel_rfl) (fun _ => rfl) rfl (Nat.zero_le _) (by repeat' (first | rfl | trivial | apply And.intro)) (by repeat' (first | rfl | trivial | apply And.intro)) ?_
  intro i hi
  have hpl := pre_len q name i
  conv => whnf
  refine vif_split (fun u => ?_) (fun u => ?_)
  rotate_left 1
  · have hie : i = q.length := by simp at u; omega
    subst hie
    rw [pre_all hqk, ← hsl]
    conv => whnf
    exact aret [] (congrArg Value.bool (by simp))
  have hlt : i < q.length := by simp at u; omega
  have hg := List.getElem?_eq_getElem hlt
  have hnew := fun h1 h2 h3 => pre_new hqa hg h1 h2 h3 (name := name)
  have hold := pre_old hqa hg (name := name)
  have hat := pre_at hqk hg (name := name)
  have hte := hqt _ (List.getElem_mem hlt)
  have hhas := hasLA (G := GS) ((pre q name i).map (·.id)) q[i].id (by rw [List.length_map]; omega)
  generalize q[i] = e at *
  conv => whnf
  refine AIn.mk' i rfl (by rw [List.length_map]; exact hlt) ?_
  conv => whnf
  refine ARd.mapAt hg ?_
  conv => whnf
  refine vif_split (fun u1 => ?_) (fun u1 => ?_)
  · conv => whnf
    have ho := hold (fun h => by simp at u1; exact u1 h.1)
    conv => whnf
    refine AAr.i64 (by omega) ?_
    conv => whnf
    exact aback (i + 1) [(3, .lab 3)] [] rfl (by show q.length - (i + 1) < q.length - i; omega) hlt ⟨(by repeat' (first | rfl | trivial | apply And.intro)), (by repeat' (first | rfl | trivial | apply And.intro)), ⟨rfl, rfl, by rw [ho]⟩, trivial⟩ ⟨congrArg (fun p : List Ex => Value.int .i64 (p.length : Int)) ho.symm, rfl, rfl, trivial⟩
  conv => whnf
  refine vif_split (fun u2 => ?_) (fun u2 => ?_)
  · have hn : ¬ e.name = name := by simpa [sEq_tx] using u2
    conv => whnf
    have ho := hold (fun h => hn h.2.1)
    conv => whnf
    refine AAr.i64 (by omega) ?_
    conv => whnf
    exact aback (i + 1) [(3, .lab 3)] [] rfl (by show q.length - (i + 1) < q.length - i; omega) hlt ⟨(by repeat' (first | rfl | trivial | apply And.intro)), (by repeat' (first | rfl | trivial | apply And.intro)), ⟨rfl, rfl, by rw [ho]⟩, trivial⟩ ⟨congrArg (fun p : List Ex => Value.int .i64 (p.length : Int)) ho.symm, rfl, rfl, trivial⟩
  conv => whnf
  refine acall [3] (by kernel_rfl) hhas rfl ?_ ?_; (focus (repeat' (first | rfl | trivial | apply And.intro)))
  conv => whnf
  refine vif_split (fun u3 => ?_) (fun u3 => ?_)
  · have hn : e.id ∈ (pre q name i).map (·.id) := of_decide_eq_true u3
    conv => whnf
    have ho := hold (fun h => h.2.2 hn)
    conv => whnf
    refine AAr.i64 (by omega) ?_
    conv => whnf
    exact aback (i + 1) [(3, .lab 3)] [] rfl (by show q.length - (i + 1) < q.length - i; omega) hlt ⟨(by repeat' (first | rfl | trivial | apply And.intro)), (by repeat' (first | rfl | trivial | apply And.intro)), ⟨rfl, rfl, by rw [ho]⟩, trivial⟩ ⟨congrArg (fun p : List Ex => Value.int .i64 (p.length : Int)) ho.symm, rfl, rfl, trivial⟩
  have hk1 : e.kind = 1 := by simpa using u1
  have hen : e.name = name := by simpa [sEq_tx] using u2
  have hni : e.id ∉ (pre q name i).map (·.id) := of_decide_eq_false u3
  have hn := hnew hk1 hen hni
  have hx := hat hn
  have hse : smpE q name M (pre q name i).length (exE e) = ⟨exE e, lim M (mtV M (q.filter (pW e M.window))), lim M (mtB M (q.filter (pW e M.window))), if M.before = 0 then 0 else lim M (mtV M (q.filter (pB e M.before))), q.any (pM e M.window name)⟩ := by
    unfold smpE
    simp only [hqk, plain_ins htwo hx, plain_bef, plain_mix htwo hx]
  have hS := hsg _ _ hx
  rw [hse] at hS
  have hkS := (List.getElem?_eq_some_iff.1 hS).1
  have hn1 : (pre q name (i + 1)).length = (pre q name i).length + 1 := by rw [hn]; simp
  have hn2 : (pre q name (i + 1)).map (·.id) = (pre q name i).map (·.id) ++ [e.id] := by rw [hn, List.map_append]; rfl
  clear hnew hold hat hse hsg hhas hn hx
  generalize hseen : (pre q name i).map (·.id) = seen at *
  have hsnl : seen.length ≤ 60 := by rw [← hseen, List.length_map]; omega
  generalize (pre q name i).length = k at *
  conv => whnf
  refine VReq.mk (app_ok (by simp only [List.length_map, List.length_cons, List.length_nil]; omega) (by kernel_rfl)) ?_
  conv => whnf
  refine aloop ws5_3 9 [17, 18, 19, 20] (fun j : Nat => [(17, .own 7), (18, .own 8), (19, bv ((q.take j).any (pM e M.window name))), (20, iv j)]) (fun j => [(0, .var 27 ((mtF M).map FV.up)), (2, .fz 10 (q.map enE)), (6, .rows 9 1 ((seen ++ [e.id]).map enT)), (4, .var 32 ((enE e).map FV.up)), (7, .rows 32 10 (((q.take j).filter (pW e M.window)).map enE)), (8, .rows 32 10 (((q.take j).filter (pB e M.before)).map enE))]) (fun j => j ≤ q.length) (fun j => q.length - j) [(7, .nil), (8, .nil)] [] 0 (by kernel_rfl) (fun _ => rfl) rfl (Nat.zero_le _) ⟨(by repeat' (first | rfl | trivial | apply And.intro)), (by repeat' (first | rfl | trivial | apply And.intro)), ⟨rfl, rfl, ?_⟩, (by repeat' (first | rfl | trivial | apply And.intro)), (by repeat' (first | rfl | trivial | apply And.intro)), (by repeat' (first | rfl | trivial | apply And.intro)), trivial⟩ (by repeat' (first | rfl | trivial | apply And.intro)) ?_
  · rw [List.map_append]; rfl
  intro j hj
  conv => whnf
  refine vif_split (fun u4 => ?_) (fun u4 => ?_)
  rotate_left 1
  · have hje : j = q.length := by simp at u4; omega
    subst hje
    rw [List.take_length]
    have hm1 : MeasL (q.filter (pW e M.window)) := hqB.meas (fun y hy => by
      obtain ⟨h1, h2⟩ := List.mem_filter.1 hy
      refine List.mem_filter.2 ⟨h1, ?_⟩
      unfold pW at h2
      simp only [Bool.and_eq_true] at h2
      exact h2.2.1) (Nat.le_trans (List.length_filter_le _ _) (by omega))
    have hm2 : MeasL (q.filter (pB e M.before)) := hqB.meas (fun y hy => by
      obtain ⟨h1, h2⟩ := List.mem_filter.1 hy
      refine List.mem_filter.2 ⟨h1, ?_⟩
      unfold pB at h2
      simp only [Bool.and_eq_true] at h2
      exact h2.2.1) (Nat.le_trans (List.length_filter_le _ _) (by omega))
    generalize q.filter (pW e M.window) = wi at *
    generalize q.filter (pB e M.before) = bf at *
    generalize q.any (pM e M.window name) = mx at *
    conv => whnf
    refine acall [7] (by kernel_rfl) (valueRA M wi hmc hm1 hz1 hz2) rfl ?_ ?_; (focus (repeat' (first | rfl | trivial | apply And.intro)))
    conv => whnf
    refine acall [8] (by kernel_rfl) (valueRA M bf hmc hm2 hz1 hz2) rfl ?_ ?_; (focus (repeat' (first | rfl | trivial | apply And.intro)))
    conv => whnf
    refine vif_split (fun v1 => ?_) (fun v1 => ?_)
    · rw [if_pos (by simpa using v1)] at hS
      conv => whnf
      (refine adraw pln5 [] (by kernel_rfl) ?_; conv => whnf)
      refine vif_split (fun z => ?_) (fun z => ?_)
      · exfalso; simp at z; omega
      conv => whnf
      repeat' (first
        | (refine And.intro ?_ ?_ <;> (conv => whnf))
        | (refine AIn.mk' k rfl (by rw [List.length_map]; exact hkS) ?_; conv => whnf)
        | (refine ARd.mapAt hS ?_; conv => whnf)
        | (refine vif_split (fun z => ?_) (fun z => ?_) <;> (first | (exfalso; simp [sEq_tx, exE] at z; done) | (conv => whnf)))
        | (refine AAr.i64 (by omega) ?_; conv => whnf))
      refine aback (i + 1) [(3, .lab 6)] [] rfl (by show q.length - (i + 1) < q.length - i; omega) hlt ⟨(by repeat' (first | rfl | trivial | apply And.intro)), (by repeat' (first | rfl | trivial | apply And.intro)), ⟨rfl, rfl, by rw [hn2]⟩, trivial⟩ ⟨?_, rfl, rfl, trivial⟩
      show _ = Value.int .i64 (((pre q name (i + 1)).length : Nat) : Int)
      rw [hn1]
      rfl
    · rw [if_neg (by simpa using v1)] at hS
      conv => whnf
      (refine adraw pln5 [] (by kernel_rfl) ?_; conv => whnf)
      refine vif_split (fun z => ?_) (fun z => ?_)
      · exfalso; simp at z; omega
      conv => whnf
      repeat' (first
        | (refine And.intro ?_ ?_ <;> (conv => whnf))
        | (refine AIn.mk' k rfl (by rw [List.length_map]; exact hkS) ?_; conv => whnf)
        | (refine ARd.mapAt hS ?_; conv => whnf)
        | (refine vif_split (fun z => ?_) (fun z => ?_) <;> (first | (exfalso; simp [sEq_tx, exE] at z; done) | (conv => whnf)))
        | (refine AAr.i64 (by omega) ?_; conv => whnf))
      refine aback (i + 1) [(3, .lab 6)] [] rfl (by show q.length - (i + 1) < q.length - i; omega) hlt ⟨(by repeat' (first | rfl | trivial | apply And.intro)), (by repeat' (first | rfl | trivial | apply And.intro)), ⟨rfl, rfl, by rw [hn2]⟩, trivial⟩ ⟨?_, rfl, rfl, trivial⟩
      show _ = Value.int .i64 (((pre q name (i + 1)).length : Nat) : Int)
      rw [hn1]
      rfl
  have hjl : j < q.length := by simp at u4; omega
  have hgj := List.getElem?_eq_getElem hjl
  have hWi := flt_W hjl e M.window
  have hBi := flt_B hjl e M.before
  have hMx := any_M hjl e M.window name
  have hyt := hqt _ (List.getElem_mem hjl)
  have hl1 : ((q.take j).filter (pW e M.window)).length ≤ 60 := Nat.le_trans (List.length_filter_le _ _) (by rw [List.length_take]; omega)
  have hl2 : ((q.take j).filter (pB e M.before)).length ≤ 60 := Nat.le_trans (List.length_filter_le _ _) (by rw [List.length_take]; omega)
  generalize q[j] = y at *
  generalize (q.take j).filter (pW e M.window) = wi at *
  generalize (q.take j).filter (pB e M.before) = bf at *
  generalize (q.take j).any (pM e M.window name) = mx at *
  conv => whnf
  refine AIn.mk' j rfl (by rw [List.length_map]; exact hjl) ?_
  conv => whnf
  refine ARd.mapAt hgj ?_
  conv => whnf
  refine vif_split (fun u5 => ?_) (fun u5 => ?_)
  · have hid : ¬ y.id = e.id := by simpa [sEq_tx] using u5
    rw [if_neg fun h => hid h.1] at hWi hBi hMx
    conv => whnf
    refine AAr.i64 (by omega) ?_
    conv => whnf
    refine aback (j + 1) [(7, .lab 7), (8, .lab 8)] [] rfl (by show q.length - (j + 1) < q.length - j; omega) hjl ⟨(by repeat' (first | rfl | trivial | apply And.intro)), (by repeat' (first | rfl | trivial | apply And.intro)), (by repeat' (first | rfl | trivial | apply And.intro)), (by repeat' (first | rfl | trivial | apply And.intro)), ⟨rfl, rfl, ?_⟩, ⟨rfl, rfl, ?_⟩, trivial⟩ ⟨rfl, rfl, congrArg Value.bool hMx.symm, rfl, trivial⟩
    · skip
      (rw [hWi])
    · skip
      (rw [hBi])
  have hid : y.id = e.id := by simpa [sEq_tx] using u5
  conv => whnf
  refine vif_split (fun v1 => ?_) (fun v1 => ?_)
  · have hk2 : y.kind = 2 := by simpa using v1
    rw [if_neg fun h => by have := h.2.1; omega] at hMx
    conv => whnf
    refine vif_split (fun v2 => ?_) (fun v2 => ?_)
    · have ht1 : e.time ≤ y.time := by simpa using v2
      rw [if_neg fun h => by have := h.2.2.1; omega] at hBi
      conv => whnf
      refine AAr.i64 (by omega) ?_
      conv => whnf
      refine vif_split (fun v3 => ?_) (fun v3 => ?_)
      · rw [if_pos ⟨hid, hk2, ht1, by simpa using v3⟩] at hWi
        conv => whnf
        refine VReq.mk (app_ok (by simp only [List.length_map, List.length_cons, List.length_nil]; omega) (by kernel_rfl)) ?_
        conv => whnf
        refine vif_split (fun z => ?_) (fun z => ?_)
        rotate_left 1
        · exfalso; simp at z; omega
        conv => whnf
        refine vif_split (fun z => ?_) (fun z => ?_)
        · exfalso; simp at z; omega
        conv => whnf
        refine vif_split (fun z => ?_) (fun z => ?_)
        · rw [z] at hMx
          conv => whnf
          conv => whnf
          refine AAr.i64 (by omega) ?_
          conv => whnf
          refine aback (j + 1) [(7, .lab 11), (8, .lab 8)] [] rfl (by show q.length - (j + 1) < q.length - j; omega) hjl ⟨(by repeat' (first | rfl | trivial | apply And.intro)), (by repeat' (first | rfl | trivial | apply And.intro)), (by repeat' (first | rfl | trivial | apply And.intro)), (by repeat' (first | rfl | trivial | apply And.intro)), ⟨rfl, rfl, ?_⟩, ⟨rfl, rfl, ?_⟩, trivial⟩ ⟨rfl, rfl, congrArg Value.bool hMx.symm, rfl, trivial⟩
          · skip
            (rw [hWi, List.map_append]; rfl)
          · skip
            (rw [hBi])
        rw [z] at hMx
        conv => whnf
        refine vif_split (fun z => ?_) (fun z => ?_)
        · exfalso; simp at z; omega
        conv => whnf
        conv => whnf
        refine AAr.i64 (by omega) ?_
        conv => whnf
        refine aback (j + 1) [(7, .lab 11), (8, .lab 8)] [] rfl (by show q.length - (j + 1) < q.length - j; omega) hjl ⟨(by repeat' (first | rfl | trivial | apply And.intro)), (by repeat' (first | rfl | trivial | apply And.intro)), (by repeat' (first | rfl | trivial | apply And.intro)), (by repeat' (first | rfl | trivial | apply And.intro)), ⟨rfl, rfl, ?_⟩, ⟨rfl, rfl, ?_⟩, trivial⟩ ⟨rfl, rfl, congrArg Value.bool hMx.symm, rfl, trivial⟩
        · skip
          (rw [hWi, List.map_append]; rfl)
        · skip
          (rw [hBi])
      · rw [if_neg fun h => by have := h.2.2.2; simp at v3; omega] at hWi
        conv => whnf
        refine vif_split (fun z => ?_) (fun z => ?_)
        rotate_left 1
        · exfalso; simp at z; omega
        conv => whnf
        refine vif_split (fun z => ?_) (fun z => ?_)
        · exfalso; simp at z; omega
        conv => whnf
        refine vif_split (fun z => ?_) (fun z => ?_)
        · rw [z] at hMx
          conv => whnf
          conv => whnf
          refine AAr.i64 (by omega) ?_
          conv => whnf
          refine aback (j + 1) [(7, .lab 7), (8, .lab 8)] [] rfl (by show q.length - (j + 1) < q.length - j; omega) hjl ⟨(by repeat' (first | rfl | trivial | apply And.intro)), (by repeat' (first | rfl | trivial | apply And.intro)), (by repeat' (first | rfl | trivial | apply And.intro)), (by repeat' (first | rfl | trivial | apply And.intro)), ⟨rfl, rfl, ?_⟩, ⟨rfl, rfl, ?_⟩, trivial⟩ ⟨rfl, rfl, congrArg Value.bool hMx.symm, rfl, trivial⟩
          · skip
            (rw [hWi])
          · skip
            (rw [hBi])
        rw [z] at hMx
        conv => whnf
        refine vif_split (fun z => ?_) (fun z => ?_)
        · exfalso; simp at z; omega
        conv => whnf
        conv => whnf
        refine AAr.i64 (by omega) ?_
        conv => whnf
        refine aback (j + 1) [(7, .lab 7), (8, .lab 8)] [] rfl (by show q.length - (j + 1) < q.length - j; omega) hjl ⟨(by repeat' (first | rfl | trivial | apply And.intro)), (by repeat' (first | rfl | trivial | apply And.intro)), (by repeat' (first | rfl | trivial | apply And.intro)), (by repeat' (first | rfl | trivial | apply And.intro)), ⟨rfl, rfl, ?_⟩, ⟨rfl, rfl, ?_⟩, trivial⟩ ⟨rfl, rfl, congrArg Value.bool hMx.symm, rfl, trivial⟩
        · skip
          (rw [hWi])
        · skip
          (rw [hBi])
    · have ht1 : y.time < e.time := by simp at v2; omega
      rw [if_neg fun h => by have := h.2.2.1; omega] at hWi
      conv => whnf
      refine vif_split (fun z => ?_) (fun z => ?_)
      rotate_left 1
      · exfalso; simp at z; omega
      conv => whnf
      refine vif_split (fun z => ?_) (fun z => ?_)
      rotate_left 1
      · exfalso; simp at z; omega
      conv => whnf
      refine AAr.i64 (by omega) ?_
      conv => whnf
      refine vif_split (fun v3 => ?_) (fun v3 => ?_)
      · rw [if_pos ⟨hid, hk2, ht1, by simpa using v3⟩] at hBi
        conv => whnf
        refine VReq.mk (app_ok (by simp only [List.length_map, List.length_cons, List.length_nil]; omega) (by kernel_rfl)) ?_
        conv => whnf
        refine vif_split (fun z => ?_) (fun z => ?_)
        · rw [z] at hMx
          conv => whnf
          conv => whnf
          refine AAr.i64 (by omega) ?_
          conv => whnf
          refine aback (j + 1) [(7, .lab 7), (8, .lab 11)] [] rfl (by show q.length - (j + 1) < q.length - j; omega) hjl ⟨(by repeat' (first | rfl | trivial | apply And.intro)), (by repeat' (first | rfl | trivial | apply And.intro)), (by repeat' (first | rfl | trivial | apply And.intro)), (by repeat' (first | rfl | trivial | apply And.intro)), ⟨rfl, rfl, ?_⟩, ⟨rfl, rfl, ?_⟩, trivial⟩ ⟨rfl, rfl, congrArg Value.bool hMx.symm, rfl, trivial⟩
          · skip
            (rw [hWi])
          · skip
            (rw [hBi, List.map_append]; rfl)
        rw [z] at hMx
        conv => whnf
        refine vif_split (fun z => ?_) (fun z => ?_)
        · exfalso; simp at z; omega
        conv => whnf
        conv => whnf
        refine AAr.i64 (by omega) ?_
        conv => whnf
        refine aback (j + 1) [(7, .lab 7), (8, .lab 11)] [] rfl (by show q.length - (j + 1) < q.length - j; omega) hjl ⟨(by repeat' (first | rfl | trivial | apply And.intro)), (by repeat' (first | rfl | trivial | apply And.intro)), (by repeat' (first | rfl | trivial | apply And.intro)), (by repeat' (first | rfl | trivial | apply And.intro)), ⟨rfl, rfl, ?_⟩, ⟨rfl, rfl, ?_⟩, trivial⟩ ⟨rfl, rfl, congrArg Value.bool hMx.symm, rfl, trivial⟩
        · skip
          (rw [hWi])
        · skip
          (rw [hBi, List.map_append]; rfl)
      · rw [if_neg fun h => by have := h.2.2.2; simp at v3; omega] at hBi
        conv => whnf
        refine vif_split (fun z => ?_) (fun z => ?_)
        · rw [z] at hMx
          conv => whnf
          conv => whnf
          refine AAr.i64 (by omega) ?_
          conv => whnf
          refine aback (j + 1) [(7, .lab 7), (8, .lab 8)] [] rfl (by show q.length - (j + 1) < q.length - j; omega) hjl ⟨(by repeat' (first | rfl | trivial | apply And.intro)), (by repeat' (first | rfl | trivial | apply And.intro)), (by repeat' (first | rfl | trivial | apply And.intro)), (by repeat' (first | rfl | trivial | apply And.intro)), ⟨rfl, rfl, ?_⟩, ⟨rfl, rfl, ?_⟩, trivial⟩ ⟨rfl, rfl, congrArg Value.bool hMx.symm, rfl, trivial⟩
          · skip
            (rw [hWi])
          · skip
            (rw [hBi])
        rw [z] at hMx
        conv => whnf
        refine vif_split (fun z => ?_) (fun z => ?_)
        · exfalso; simp at z; omega
        conv => whnf
        conv => whnf
        refine AAr.i64 (by omega) ?_
        conv => whnf
        refine aback (j + 1) [(7, .lab 7), (8, .lab 8)] [] rfl (by show q.length - (j + 1) < q.length - j; omega) hjl ⟨(by repeat' (first | rfl | trivial | apply And.intro)), (by repeat' (first | rfl | trivial | apply And.intro)), (by repeat' (first | rfl | trivial | apply And.intro)), (by repeat' (first | rfl | trivial | apply And.intro)), ⟨rfl, rfl, ?_⟩, ⟨rfl, rfl, ?_⟩, trivial⟩ ⟨rfl, rfl, congrArg Value.bool hMx.symm, rfl, trivial⟩
        · skip
          (rw [hWi])
        · skip
          (rw [hBi])
  have hk2 : ¬ y.kind = 2 := by simpa using v1
  rw [if_neg fun h => hk2 h.2.1] at hWi hBi
  conv => whnf
  refine vif_split (fun z => ?_) (fun z => ?_)
  · exfalso; simp at z; omega
  conv => whnf
  refine vif_split (fun z => ?_) (fun z => ?_)
  · have hMy : (q.take (j + 1)).any (pM e M.window name) = true := by rw [hMx, z]; split <;> rfl
    conv => whnf
    refine AAr.i64 (by omega) ?_
    conv => whnf
    refine aback (j + 1) [(7, .lab 7), (8, .lab 8)] [] rfl (by show q.length - (j + 1) < q.length - j; omega) hjl ⟨(by repeat' (first | rfl | trivial | apply And.intro)), (by repeat' (first | rfl | trivial | apply And.intro)), (by repeat' (first | rfl | trivial | apply And.intro)), (by repeat' (first | rfl | trivial | apply And.intro)), ⟨rfl, rfl, ?_⟩, ⟨rfl, rfl, ?_⟩, trivial⟩ ⟨rfl, rfl, congrArg Value.bool hMy.symm, rfl, trivial⟩
    · skip
      (rw [hWi])
    · skip
      (rw [hBi])
  rw [z] at hMx
  conv => whnf
  refine vif_split (fun v2 => ?_) (fun v2 => ?_)
  rotate_left 1
  · rw [if_neg fun h => by simp at v2; exact v2 h.2.1] at hMx
    conv => whnf
    refine AAr.i64 (by omega) ?_
    conv => whnf
    refine aback (j + 1) [(7, .lab 7), (8, .lab 8)] [] rfl (by show q.length - (j + 1) < q.length - j; omega) hjl ⟨(by repeat' (first | rfl | trivial | apply And.intro)), (by repeat' (first | rfl | trivial | apply And.intro)), (by repeat' (first | rfl | trivial | apply And.intro)), (by repeat' (first | rfl | trivial | apply And.intro)), ⟨rfl, rfl, ?_⟩, ⟨rfl, rfl, ?_⟩, trivial⟩ ⟨rfl, rfl, congrArg Value.bool hMx.symm, rfl, trivial⟩
    · skip
      (rw [hWi])
    · skip
      (rw [hBi])
  conv => whnf
  refine vif_split (fun v3 => ?_) (fun v3 => ?_)
  rotate_left 1
  · have hny : ¬ y.name = name := by simpa [sEq_tx] using v3
    rw [if_neg fun h => hny h.2.2.1] at hMx
    conv => whnf
    refine AAr.i64 (by omega) ?_
    conv => whnf
    refine aback (j + 1) [(7, .lab 7), (8, .lab 8)] [] rfl (by show q.length - (j + 1) < q.length - j; omega) hjl ⟨(by repeat' (first | rfl | trivial | apply And.intro)), (by repeat' (first | rfl | trivial | apply And.intro)), (by repeat' (first | rfl | trivial | apply And.intro)), (by repeat' (first | rfl | trivial | apply And.intro)), ⟨rfl, rfl, ?_⟩, ⟨rfl, rfl, ?_⟩, trivial⟩ ⟨rfl, rfl, congrArg Value.bool hMx.symm, rfl, trivial⟩
    · skip
      (rw [hWi])
    · skip
      (rw [hBi])
  have hny : y.name = name := by simpa [sEq_tx] using v3
  conv => whnf
  refine vif_split (fun v4 => ?_) (fun v4 => ?_)
  rotate_left 1
  · rw [if_neg fun h => by simp at v4; exact h.2.2.2.1 v4] at hMx
    conv => whnf
    refine AAr.i64 (by omega) ?_
    conv => whnf
    refine aback (j + 1) [(7, .lab 7), (8, .lab 8)] [] rfl (by show q.length - (j + 1) < q.length - j; omega) hjl ⟨(by repeat' (first | rfl | trivial | apply And.intro)), (by repeat' (first | rfl | trivial | apply And.intro)), (by repeat' (first | rfl | trivial | apply And.intro)), (by repeat' (first | rfl | trivial | apply And.intro)), ⟨rfl, rfl, ?_⟩, ⟨rfl, rfl, ?_⟩, trivial⟩ ⟨rfl, rfl, congrArg Value.bool hMx.symm, rfl, trivial⟩
    · skip
      (rw [hWi])
    · skip
      (rw [hBi])
  conv => whnf
  refine vif_split (fun v5 => ?_) (fun v5 => ?_)
  rotate_left 1
  · rw [if_neg fun h => by have := h.2.2.2.2.1; simp at v5; omega] at hMx
    conv => whnf
    refine AAr.i64 (by omega) ?_
    conv => whnf
    refine aback (j + 1) [(7, .lab 7), (8, .lab 8)] [] rfl (by show q.length - (j + 1) < q.length - j; omega) hjl ⟨(by repeat' (first | rfl | trivial | apply And.intro)), (by repeat' (first | rfl | trivial | apply And.intro)), (by repeat' (first | rfl | trivial | apply And.intro)), (by repeat' (first | rfl | trivial | apply And.intro)), ⟨rfl, rfl, ?_⟩, ⟨rfl, rfl, ?_⟩, trivial⟩ ⟨rfl, rfl, congrArg Value.bool hMx.symm, rfl, trivial⟩
    · skip
      (rw [hWi])
    · skip
      (rw [hBi])
  conv => whnf
  refine AAr.i64 (by omega) ?_
  conv => whnf
  by_cases v6 : y.time < e.time + M.window
  · rw [if_pos ⟨hid, by simpa using v2, hny, by simpa using v4, by simpa using v5, v6⟩] at hMx
    conv => whnf
    refine AAr.i64 (by omega) ?_
    conv => whnf
    refine aback (j + 1) [(7, .lab 7), (8, .lab 8)] [] rfl (by show q.length - (j + 1) < q.length - j; omega) hjl ⟨(by repeat' (first | rfl | trivial | apply And.intro)), (by repeat' (first | rfl | trivial | apply And.intro)), (by repeat' (first | rfl | trivial | apply And.intro)), (by repeat' (first | rfl | trivial | apply And.intro)), ⟨rfl, rfl, ?_⟩, ⟨rfl, rfl, ?_⟩, trivial⟩ ⟨rfl, rfl, congrArg Value.bool ((decide_eq_true v6).trans hMx.symm), rfl, trivial⟩
    · skip
      (rw [hWi])
    · skip
      (rw [hBi])
  · rw [if_neg fun h => v6 h.2.2.2.2.2] at hMx
    conv => whnf
    refine AAr.i64 (by omega) ?_
    conv => whnf
    refine aback (j + 1) [(7, .lab 7), (8, .lab 8)] [] rfl (by show q.length - (j + 1) < q.length - j; omega) hjl ⟨(by repeat' (first | rfl | trivial | apply And.intro)), (by repeat' (first | rfl | trivial | apply And.intro)), (by repeat' (first | rfl | trivial | apply And.intro)), (by repeat' (first | rfl | trivial | apply And.intro)), ⟨rfl, rfl, ?_⟩, ⟨rfl, rfl, ?_⟩, trivial⟩ ⟨rfl, rfl, congrArg Value.bool ((decide_eq_false v6).trans hMx.symm), rfl, trivial⟩
    · skip
      (rw [hWi])
    · skip
      (rw [hBi])
end Go.Proofs.YtmnjmdajgilhiaaDoor.Cl

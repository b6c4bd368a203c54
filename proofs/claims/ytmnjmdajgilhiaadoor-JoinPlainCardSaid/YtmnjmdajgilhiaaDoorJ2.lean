/- The walks of the reference's Members and Owner. Condition: sizes. -/
import Derived.Test.YtmnjmdajgilhiaaDoorJx
set_option linter.unusedVariables false
set_option linter.unusedSimpArgs false
namespace Go.Proofs.YtmnjmdajgilhiaaDoor.Cl
open Go Go.RowKit Go.Proofs Go.Proofs.YtmnjmdajgilhiaaDoor.Vc Go.Proofs.YtmnjmdajgilhiaaDoor.Ax Go.Proofs.YtmnjmdajgilhiaaDoor.Ky Go.Proofs.YtmnjmdajgilhiaaDoor.Id
attribute [local irreducible] loadVar storeVar Instr.indexAt Instr.index Instr.sliceAt Instr.makeSlice Instr.lookup Instr.mapUpdate Instr.range Instr.next Instr.entry Instr.makeMap Builtin.append_ Builtin.copy_ Builtin.len_ Builtin.min_ Builtin.max_ Builtin.cap_ Builtin.delete_ Builtin.clear_ convert binOp eqGuard Op.unary Calls
def sB (s : ByteArray) : List FV := [.v (.string s)]
theorem svals_recs (l : List ByteArray) : recs (fun s => [Value.string s]) l = svals l := by
  unfold svals
  induction l with
  | nil => rfl
  | cons x r ih => rw [List.map_cons, ← ih]; rfl
section
variable {G : Glob}
theorem hasA (L : List ByteArray) (x : ByteArray) (h : L.length ≤ 1099511627776) : AFn Tryd.prog G 50 [.lst 1 (L.map sB), sv x] 0 [] (Is (bv (hasB L x))) :=
  afn_flat fun w σ F vs hG hF r => by
    match vs, r with
    | [v, u], ⟨r1, r2, _⟩ =>
    obtain ⟨oa, c, rfl, _, _, hr⟩ := flat_src (sz := 1) (enc := sB) (c := fun s => [Value.string s]) (fun _ => rfl) r1 hF
    rw [svals_recs] at hr
    rw [r2.v_eq]
    exact (has_ok oa c L x w hr h).mono fun v w' ⟨e1, e2⟩ => ⟨e1, by rw [e2]; exact Below.refl _ _⟩
theorem ins_mem {L : List ByteArray} {x : ByteArray} (i : Nat) : (L.take i ++ [x] ++ L.drop i).length = L.length + 1 ∧ ∀ y, y ∈ L.take i ++ [x] ++ L.drop i ↔ y ∈ L ∨ y = x := by
  refine ⟨by simp; omega, fun y => ?_⟩
  rw [List.mem_append, List.mem_append, List.mem_singleton]
  constructor
  · rintro ((h | h) | h)
    · exact .inl (List.mem_of_mem_take h)
    · exact .inr h
    · exact .inl (List.mem_of_mem_drop h)
  · rintro (h | h)
    · rw [← List.take_append_drop i L] at h
      rcases List.mem_append.1 h with h | h
      · exact .inl (.inl h)
      · exact .inr h
    · exact .inl (.inr h)
set_option maxHeartbeats 4000000 in
set_option maxRecDepth 100000 in
theorem insertA (L : List ByteArray) (x : ByteArray) (hl : L.length ≤ 4000000) : AFn Tryd.prog G 63 [.lst 1 (L.map sB), sv x] 0 [] (fun a n H => ∃ M : List ByteArray, M.length = L.length + 1 ∧ (∀ y, y ∈ M ↔ y ∈ L ∨ y = x) ∧ Own1 9 1 (M.map sB) a n H) := by
  refine afn_of Tryd.func63 rfl mixed (by kernel_rfl) ?_
  conv => whnf
  refine aloop ws63_1 0 [5] (fun i : Nat => [(5, iv i)]) (fun _ => []) (fun i => i ≤ L.length) (fun i => L.length - i) [] [] 0 (by kernel_rfl) (fun _ => rfl) rfl (Nat.zero_le _) (by repeat' (first | rfl | trivial | apply And.intro)) (by repeat' (first | rfl | trivial | apply And.intro)) ?_
  intro i hi
  conv => whnf
  refine vif_split (fun h => ?_) (fun h => ?_)
  · have hlt : i < L.length := by simp at h; omega
    have hg := List.getElem?_eq_getElem hlt
    generalize L[i] = y at *
    conv => whnf
    refine AIn.mk' i rfl (by rw [List.length_map]; exact hlt) ?_
    conv => whnf
    refine ARd.mapAt hg ?_
    conv => whnf
    refine vif_split (fun h => ?_) (fun h => ?_)
    · conv => whnf
      refine AAr.i64 (by omega) ?_
      conv => whnf
      exact aback (i + 1) [] [] rfl (by show L.length - (i + 1) < L.length - i; omega) hlt (by repeat' (first | rfl | trivial | apply And.intro)) (by repeat' (first | rfl | trivial | apply And.intro))
    · conv => whnf
      (refine adraw pln63 [0, 1, 2, 3, 4] (by kernel_rfl) ?_; conv => whnf)
      repeat' (first
        | (refine And.intro ?_ ?_ <;> (conv => whnf))
        | (refine ABd.mk' 0 i rfl rfl (Nat.zero_le _) (by rw [List.length_map]; omega) ?_; conv => whnf)
        | (refine ABd.mk' i L.length rfl (by rw [List.length_map]) hi (by rw [List.length_map]; exact Nat.le_refl _) ?_; conv => whnf)
        | (refine VReq.mk (app_ok (by simp only [cut, List.length_map, List.length_append, List.length_cons, List.length_nil, List.length_take, List.length_drop]; omega) (by kernel_rfl)) ?_; conv => whnf))
      all_goals (refine aend (.own 0) 1 [(0, .rows 9 1 ((L.take i ++ [x] ++ L.drop i).map sB))] [(0, .lab 4)] [] ⟨L.take i ++ [x] ++ L.drop i, (ins_mem i).1, (ins_mem i).2, rfl, rfl, rfl⟩ rfl ⟨⟨rfl, rfl, ?_⟩, trivial⟩ (by repeat' (first | rfl | trivial | apply And.intro)))
      all_goals (rw [List.map_append, List.map_append, List.map_take, List.map_drop]; rfl)
  · conv => whnf
    (refine adraw pln63 [0, 1, 2, 3, 4] (by kernel_rfl) ?_; conv => whnf)
    repeat' (first
      | (refine And.intro ?_ ?_ <;> (conv => whnf))
      | (refine ABd.mk' 0 i rfl rfl (Nat.zero_le _) (by rw [List.length_map]; omega) ?_; conv => whnf)
      | (refine ABd.mk' i L.length rfl (by rw [List.length_map]) hi (by rw [List.length_map]; exact Nat.le_refl _) ?_; conv => whnf)
      | (refine VReq.mk (app_ok (by simp only [cut, List.length_map, List.length_append, List.length_cons, List.length_nil, List.length_take, List.length_drop]; omega) (by kernel_rfl)) ?_; conv => whnf))
    all_goals (refine aend (.own 0) 1 [(0, .rows 9 1 ((L.take i ++ [x] ++ L.drop i).map sB))] [(0, .lab 4)] [] ⟨L.take i ++ [x] ++ L.drop i, (ins_mem i).1, (ins_mem i).2, rfl, rfl, rfl⟩ rfl ⟨⟨rfl, rfl, ?_⟩, trivial⟩ (by repeat' (first | rfl | trivial | apply And.intro)))
    all_goals (rw [List.map_append, List.map_append, List.map_take, List.map_drop]; rfl)
/-- between two rounds of the outer loop -/
structure MX where
  L : List ByteArray
  again : Bool
structure MY where
  i : Nat
  M : List ByteArray
  again : Bool
structure MOK (ls : List Lk) (id : ByteArray) (L : List ByteArray) : Prop where
  len : L.length + away L ls ≤ 1 + 2 * ls.length
  me : id ∈ L
  con : ∀ y, y ∈ L → con ls id y
theorem away_top (L : List ByteArray) (l : List Lk) : away L l ≤ 2 * l.length := by
  induction l with
  | nil => exact Nat.le_refl _
  | cons k l ih =>
    simp only [away, List.length_cons]
    have hb : ∀ b : Bool, (bif b then 0 else 1 : Nat) ≤ 1 := fun b => by cases b <;> decide
    have h1 := hb (hasB L k.a)
    have h2 := hb (hasB L k.b)
    omega
theorem MOK.put {ls : List Lk} {id s : ByteArray} {M M' : List ByteArray} {k : Lk} (h : MOK ls id M) (hkm : k ∈ ls) (hs : s ∉ M) (hM : ∀ y, y ∈ M' ↔ y ∈ M ∨ y = s) (hl : M'.length = M.length + 1) (hks : k.a = s ∨ k.b = s) (hc : Id.con ls id s) : MOK ls id M' ∧ away M' ls < away M ls := by
  have h1 := away_lt (L := M) (M := M') (fun y hy => (hM y).2 (.inl hy)) hs ((hM s).2 (.inr rfl)) ls ⟨k, hkm, hks⟩
  have := h.len
  refine ⟨⟨by omega, (hM id).2 (.inl h.me), fun y hy => ?_⟩, h1⟩
  rcases (hM y).1 hy with e | e
  · exact h.con y e
  · rw [e]; exact hc
set_option maxHeartbeats 8000000 in
set_option maxRecDepth 100000 in
theorem members2A (ls : List Lk) (id : ByteArray) (h : ls.length ≤ 1000000) : AFn Tryd.prog G 49 [lksA ls, sv id] 0 [] (fun a n H => ∃ L : List ByteArray, L.length ≤ 2000001 ∧ (∀ y, y ∈ L ↔ con ls id y) ∧ Own1 9 1 (L.map sB) a n H) := by
  refine afn_of Tryd.func49 rfl mixed (by kernel_rfl) ?_
  conv => whnf
  refine aloop ws49_1 2 [5, 6] (fun x : MX => [(5, .own 1), (6, bv x.again)]) (fun x => [(1, .rows 9 1 (x.L.map sB))]) (fun x => MOK ls id x.L ∧ (x.again = false → ∀ k ∈ ls, (k.a ∈ x.L ↔ k.b ∈ x.L))) (fun x => 2 * away x.L ls + (bif x.again then 1 else 0)) [(1, .lab 0)] [] ⟨[id], true⟩ (by kernel_rfl) (fun _ => rfl) rfl ⟨⟨by have := away_top [id] ls; simp only [List.length_cons, List.length_nil]; omega, by simp, fun y hy => by simp at hy; subst hy; exact rfl⟩, fun e => by cases e⟩ (by repeat' (first | rfl | trivial | apply And.intro)) (by repeat' (first | rfl | trivial | apply And.intro)) ?_
  rintro ⟨L, again⟩ ⟨hL, hcl⟩
  change MOK ls id L at hL
  change again = false → ∀ k ∈ ls, (k.a ∈ L ↔ k.b ∈ L) at hcl
  conv => whnf
  cases again with
  | false =>
    have hclo := hcl rfl
    have := hL.len
    conv => whnf
    refine aend (.own 0) 1 _ [(0, .lab 1)] [] ⟨L, by omega, fun y => ⟨hL.con y, fun hy => (con_closed (fun z => z ∈ L) _ ls rfl hclo id y hy).1 hL.me⟩, rfl, rfl, rfl⟩ rfl (by repeat' (first | rfl | trivial | apply And.intro)) (by repeat' (first | rfl | trivial | apply And.intro))
  | true =>
    conv => whnf
    refine aloop ws49_2 3 [5, 6, 7] (fun x : MY => [(5, .own 2), (6, bv x.again), (7, iv x.i)]) (fun x => [(2, .rows 9 1 (x.M.map sB))])
      (fun x => x.i ≤ ls.length ∧ MOK ls id x.M ∧ (x.again = false → away x.M ls ≤ away L ls ∧ ∀ k ∈ ls.take x.i, (k.a ∈ x.M ↔ k.b ∈ x.M)) ∧ (x.again = true → away x.M ls < away L ls)) (fun x => ls.length - x.i) [(2, .lab 1)] [] ⟨0, L, false⟩ (by kernel_rfl) (fun _ => rfl) rfl
      ⟨Nat.zero_le _, hL, fun _ => ⟨Nat.le_refl _, fun k hk => by simp at hk⟩, fun e => by cases e⟩ (by repeat' (first | rfl | trivial | apply And.intro)) (by repeat' (first | rfl | trivial | apply And.intro)) ?_
    rintro ⟨i, M, again⟩ ⟨hi, hM, hf, ht⟩
    change i ≤ ls.length at hi
    change MOK ls id M at hM
    change again = false → away M ls ≤ away L ls ∧ ∀ k ∈ ls.take i, (k.a ∈ M ↔ k.b ∈ M) at hf
    change again = true → away M ls < away L ls at ht
    have hML := hM.len
    conv => whnf
    refine vif_split (fun h => ?_) (fun h => ?_)
    rotate_left 1
    · have hie : i = ls.length := by simp at h; omega
      subst hie
      rw [List.take_length] at hf
      conv => whnf
      refine aback ⟨M, again⟩ [(1, .lab 2)] [] rfl ?_ ⟨hM, fun e => (hf e).2⟩ (by repeat' (first | rfl | trivial | apply And.intro)) (by repeat' (first | rfl | trivial | apply And.intro))
      cases again with
      | true => have := ht rfl; simp only [cond_true]; omega
      | false => have := (hf rfl).1; simp only [cond_true, cond_false]; omega
    have hlt : i < ls.length := by simp at h; omega
    have hg := List.getElem?_eq_getElem hlt
    have hkm : ls[i] ∈ ls := List.getElem_mem hlt
    have hlk := con_link _ ls rfl ls[i] hkm
    have htk := List.take_succ_eq_append_getElem hlt
    generalize ls[i] = k at *
    have hnew : ∀ s M', s ∉ M → (∀ y, y ∈ M' ↔ y ∈ M ∨ y = s) → M'.length = M.length + 1 → (k.a = s ∨ k.b = s) → Id.con ls id s → MOK ls id M' ∧ away M' ls < away L ls := fun s M' a1 a2 a3 a4 a5 => by
      obtain ⟨b1, b2⟩ := hM.put hkm a1 a2 a3 a4 a5
      refine ⟨b1, ?_⟩
      cases again with
      | true => have := ht rfl; omega
      | false => have := (hf rfl).1; omega
    conv => whnf
    (refine adraw pln49 [2] (by kernel_rfl) ?_; conv => whnf)
    repeat' (first
      | (refine And.intro ?_ ?_ <;> (conv => whnf))
      | (refine AIn.mk' i rfl (by rw [List.length_map]; exact hlt) ?_; conv => whnf)
      | (refine ARd.mapAt hg ?_; conv => whnf)
      | (refine acall [2] (by kernel_rfl) (hasA M k.a (by omega)) rfl ?_ ?_; (focus ((repeat' (first | rfl | trivial | apply And.intro)); done)); (conv => whnf))
      | (refine acall [2] (by kernel_rfl) (hasA M k.b (by omega)) rfl ?_ ?_; (focus ((repeat' (first | rfl | trivial | apply And.intro)); done)); (conv => whnf)))
    refine vif_split (fun hab => ?_) (fun hab => ?_)
    · have hab : hasB M k.a = hasB M k.b := by simpa using hab
      have habm : k.a ∈ M ↔ k.b ∈ M := by rw [← hasB_iff, ← hasB_iff, hab]
      conv => whnf
      refine AAr.i64 (by (try dsimp only); omega) ?_
      conv => whnf
      refine aback ⟨i + 1, M, again⟩ [(2, .lab 2)] [] rfl (by show ls.length - (i + 1) < ls.length - i; omega) ⟨hlt, hM, fun e => ⟨(hf e).1, fun k' hk' => ?_⟩, ht⟩ (by repeat' (first | rfl | trivial | apply And.intro)) (by repeat' (first | rfl | trivial | apply And.intro))
      rw [htk] at hk'
      rcases List.mem_append.1 hk' with h | h
      · exact (hf e).2 k' h
      · rw [List.mem_singleton.1 h]; exact habm
    · have hab : hasB M k.a ≠ hasB M k.b := by intro e; simp [e] at hab
      conv => whnf
      refine AIn.mk' i rfl (by rw [List.length_map]; exact hlt) ?_
      conv => whnf
      refine ARd.mapAt hg ?_
      conv => whnf
      cases ha : hasB M k.a with
      | true =>
        have hb : hasB M k.b = false := by cases hb : hasB M k.b with
          | false => rfl
          | true => exact absurd (ha.trans hb.symm) hab
        conv => whnf
        refine AIn.mk' i rfl (by rw [List.length_map]; exact hlt) ?_
        conv => whnf
        refine ARd.mapAt hg ?_
        conv => whnf
        refine acallF [2] (by kernel_rfl) (insertA M k.b (by omega)) ?_ ?_; (focus (repeat' (first | rfl | trivial | apply And.intro)))
        rintro _ _ _ ⟨M', hl', hm', rfl, rfl, rfl⟩
        obtain ⟨f1, f2⟩ := hnew k.b M' ((hasB_not _ _).1 hb) hm' hl' (.inr rfl) ((hM.con _ ((hasB_iff _ _).1 ha)).trans hlk)
        conv => whnf
        refine AAr.i64 (by (try dsimp only); omega) ?_
        conv => whnf
        exact aback ⟨i + 1, M', true⟩ [(2, .lab 3)] [] rfl (by show ls.length - (i + 1) < ls.length - i; omega) ⟨hlt, f1, (fun e => by cases e), fun _ => f2⟩ (by repeat' (first | rfl | trivial | apply And.intro)) (by repeat' (first | rfl | trivial | apply And.intro))
      | false =>
        have hb : hasB M k.b = true := by cases hb : hasB M k.b with
          | true => rfl
          | false => exact absurd (ha.trans hb.symm) hab
        conv => whnf
        refine acallF [2] (by kernel_rfl) (insertA M k.a (by omega)) ?_ ?_; (focus (repeat' (first | rfl | trivial | apply And.intro)))
        rintro _ _ _ ⟨M', hl', hm', rfl, rfl, rfl⟩
        obtain ⟨f1, f2⟩ := hnew k.a M' ((hasB_not _ _).1 ha) hm' hl' (.inl rfl) ((hM.con _ ((hasB_iff _ _).1 hb)).trans hlk.symm)
        conv => whnf
        refine AAr.i64 (by (try dsimp only); omega) ?_
        conv => whnf
        exact aback ⟨i + 1, M', true⟩ [(2, .lab 3)] [] rfl (by show ls.length - (i + 1) < ls.length - i; omega) ⟨hlt, f1, (fun e => by cases e), fun _ => f2⟩ (by repeat' (first | rfl | trivial | apply And.intro)) (by repeat' (first | rfl | trivial | apply And.intro))
/-- whose an id is, by the members of its subject -/
theorem ow_members {ls : List Lk} {t : Int} {id : By} {L : List ByteArray} (hL : ∀ y, y ∈ L ↔ Id.con (unt t ls) (ba id) y) (x : Ex) : (decide (x.time ≤ t) && hasB L (ba x.id)) = owP ls t id x := by
  have e : hasB L (ba x.id) = decide (rtA ls t x.id = rtA ls t id) := by
    rw [Bool.eq_iff_iff, hasB_iff, hL, decide_eq_true_iff]
    exact ⟨fun h => Eq.symm h, fun h => Eq.symm h⟩
  rw [e]
  rfl
set_option maxHeartbeats 8000000 in
set_option maxRecDepth 100000 in
theorem owner2A (l : List Ev) (xs : List Ex) (id : By) (t : Int) (hl : l.length ≤ 50000) (hx : xs.length ≤ 100000) : AFn Tryd.prog G 26 [el l, exL xs, tv id, iv t] 0 [] (Is (iv (owI (lksE l) xs id t))) := by
  have hls : (lksE l).length ≤ 50000 := by unfold lksE; rw [List.length_map]; have := ofK_le 3 l; omega
  refine afn_of Tryd.func26 rfl mixed (by kernel_rfl) ?_
  conv => whnf
  (refine acallF [] (by kernel_rfl) (links2A l (by omega)) ?_ ?_; (focus (repeat' (first | rfl | trivial | apply And.intro))))
  rintro _ _ _ ⟨rfl, rfl, rfl⟩
  generalize lksE l = ls at *
  conv => whnf
  (refine acallF [] (by kernel_rfl) (AFn.frz (until2A ls t (by omega))) ?_ ?_; (focus (repeat' (first | rfl | trivial | apply And.intro))))
  rintro _ _ _ ⟨rfl, rfl, rfl⟩
  have hul := unt_len t ls
  conv => whnf
  (refine acallF [] (by kernel_rfl) (members2A (unt t ls) (ba id) (by omega)) ?_ ?_; (focus (repeat' (first | rfl | trivial | apply And.intro))))
  rintro _ _ _ ⟨L, hLl, hL, rfl, rfl, rfl⟩
  have how := fun x => ow_members (t := t) (ls := ls) (id := id) hL x
  conv => whnf
  refine aloop ws26_1 1 [11] (fun i : Nat => [(11, iv i)]) (fun i => [(0, .rows 9 1 (L.map sB))]) (fun i => i ≤ xs.length ∧ ∀ j (h : j < xs.length), j < i → owP ls t id xs[j] = false) (fun i => xs.length - i) [] [] 0 (by kernel_rfl) (fun _ => rfl) rfl ⟨Nat.zero_le _, fun j _ h => absurd h (Nat.not_lt_zero j)⟩ (by repeat' (first | rfl | trivial | apply And.intro)) (by repeat' (first | rfl | trivial | apply And.intro)) ?_
  rintro i ⟨hi, hno⟩
  conv => whnf
  refine vif_split (fun h => ?_) (fun h => ?_)
  rotate_left 1
  · have hie : i = xs.length := by simp at h; omega
    subst hie
    have e : owI ls xs id t = -1 := by unfold owI; rw [owO_none fun j h => hno j h h]
    conv => whnf
    exact aret [] (by rw [e]; repeat' (first | rfl | trivial | apply And.intro))
  have hlt : i < xs.length := by simp at h; omega
  have hP := how xs[i]
  have hg := List.getElem?_eq_getElem hlt
  have hsome : owP ls t id xs[i] = true → owI ls xs id t = (i : Int) := fun h => by unfold owI; rw [owO_some hlt h fun j hj => hno j (by omega) hj]
  have hnext : owP ls t id xs[i] = false → i + 1 ≤ xs.length ∧ ∀ j (h : j < xs.length), j < i + 1 → owP ls t id xs[j] = false := fun h0 => ⟨hlt, fun j h hj => by
    rcases Nat.lt_or_ge j i with h1 | h1
    · exact hno j h h1
    · have : j = i := by omega
      subst this
      exact h0⟩
  generalize xs[i] = x at *
  conv => whnf
  refine AIn.mk' i rfl (by rw [List.length_map]; exact hlt) ?_
  conv => whnf
  refine ARd.mapAt hg ?_
  conv => whnf
  refine vif_split (fun h1 => ?_) (fun h1 => ?_)
  · conv => whnf
    refine AAr.i64 (by (try dsimp only); omega) ?_
    conv => whnf
    exact aback (i + 1) [] [] rfl (by show xs.length - (i + 1) < xs.length - i; omega) (hnext (by rw [← hP, decide_eq_false (by simp at h1; omega)]; rfl)) (by repeat' (first | rfl | trivial | apply And.intro)) (by repeat' (first | rfl | trivial | apply And.intro))
  have ht : x.time ≤ t := by simp at h1; omega
  rw [decide_eq_true ht, Bool.true_and] at hP
  conv => whnf
  refine aloop ws26_2 1 [12] (fun k : Nat => [(12, iv k)]) (fun k => [(0, .rows 9 1 (L.map sB))]) (fun k => k ≤ L.length ∧ ba x.id ∉ L.take k) (fun k => L.length - k) [] [] 0 (by kernel_rfl) (fun _ => rfl) rfl ⟨Nat.zero_le _, by simp⟩ (by repeat' (first | rfl | trivial | apply And.intro)) (by repeat' (first | rfl | trivial | apply And.intro)) ?_
  rintro k ⟨hk, hnk⟩
  conv => whnf
  refine vif_split (fun h2 => ?_) (fun h2 => ?_)
  · have hlk : k < L.length := by simp at h2; omega
    have hgk := List.getElem?_eq_getElem hlk
    have hmk := List.getElem_mem hlk
    have htk := List.take_succ_eq_append_getElem hlk
    generalize L[k] = y at *
    conv => whnf
    (refine adraw pln26 [] (by kernel_rfl) ?_; conv => whnf)
    repeat' (first
      | (refine And.intro ?_ ?_ <;> (conv => whnf))
      | (refine AIn.mk' i rfl (by rw [List.length_map]; exact hlt) ?_; conv => whnf)
      | (refine AIn.mk' k rfl (by rw [List.length_map]; exact hlk) ?_; conv => whnf)
      | (refine ARd.mapAt hg ?_; conv => whnf)
      | (refine ARd.mapAt hgk ?_; conv => whnf))
    refine vif_split (fun h3 => ?_) (fun h3 => ?_)
    · have h3 := (sEq_iff _ _).1 h3
      have e := hsome (by rw [← hP]; exact (hasB_iff _ _).2 (by rw [show ba x.id = y from h3.symm]; exact hmk))
      conv => whnf
      exact aret [] (by rw [e]; repeat' (first | rfl | trivial | apply And.intro))
    · have h3 : ¬ y = ba x.id := fun e => by rw [(sEq_iff _ _).2 e] at h3; cases h3
      conv => whnf
      refine AAr.i64 (by (try dsimp only); omega) ?_
      conv => whnf
      refine aback (k + 1) [] [] rfl (by show L.length - (k + 1) < L.length - k; omega) ⟨hlk, ?_⟩ (by repeat' (first | rfl | trivial | apply And.intro)) (by repeat' (first | rfl | trivial | apply And.intro))
      rw [htk]
      simp only [List.mem_append, List.mem_singleton, not_or]
      exact ⟨hnk, fun e => h3 e.symm⟩
  · have hke : k = L.length := by simp at h2; omega
    subst hke
    rw [List.take_length] at hnk
    conv => whnf
    refine AAr.i64 (by (try dsimp only); omega) ?_
    conv => whnf
    exact aback (i + 1) [] [] rfl (by show xs.length - (i + 1) < xs.length - i; omega) (hnext (by rw [← hP]; exact (hasB_not _ _).2 hnk)) (by repeat' (first | rfl | trivial | apply And.intro)) (by repeat' (first | rfl | trivial | apply And.intro))
end
end Go.Proofs.YtmnjmdajgilhiaaDoor.Cl

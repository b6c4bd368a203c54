/- Joined parts of the proof. The walks of the reference's Members and Owner -/
import Derived.Test.YtgfgndaoocfpdaaGreatDoorPk18
import Derived.Test.YtgfgndaoocfpdaaGreatDoorPk17
set_option linter.unusedVariables false
set_option linter.unusedSimpArgs false
set_option maxRecDepth 100000
set_option maxHeartbeats 16000000
namespace Go.Proofs.YtgfgndaoocfpdaaGreatDoor.Cl
open Go Go.RowKit Go.Proofs Go.Proofs.YtgfgndaoocfpdaaGreatDoor.Vc Go.Proofs.YtgfgndaoocfpdaaGreatDoor.Ax Go.Proofs.YtgfgndaoocfpdaaGreatDoor.Ky Go.Proofs.YtgfgndaoocfpdaaGreatDoor.Id
attribute [local irreducible] loadVar storeVar Instr.indexAt Instr.index Instr.sliceAt Instr.makeSlice Instr.lookup Instr.mapUpdate Instr.range Instr.next Instr.entry Instr.makeMap Builtin.append_ Builtin.copy_ Builtin.len_ Builtin.min_ Builtin.max_ Builtin.cap_ Builtin.delete_ Builtin.clear_ convert binOp eqGuard Op.unary Calls
def sB (s : ByteArray) : List FV := [.v (.string s)]
theorem svals_recs (l : List ByteArray) : recs (fun s => [Value.string s]) l = svals l := by
 unfold svals
 induction l with
 | nil => rfl
 | cons x r ih => rw [List.map_cons, ← ih]; rfl
section
variable {G : Glob}
theorem hasA (L : List ByteArray) (x : ByteArray) (h : L.length ≤ 1099511627776) : AFn Tryz.prog G 82 [.lst 1 (L.map sB), sv x] 0 [] (Is (bv (hasB L x))) :=
 afn_flat fun w σ F vs hG hF r => by
  match vs, r with
  | [v, u], ⟨r1, r2, _⟩ =>
  obtain ⟨oa, c, rfl, _, _, hr⟩ := flat_src (sz := 1) (enc := sB) (c := fun s => [Value.string s]) (fun _ => rfl) r1 hF
  rw [svals_recs] at hr
  rw [r2.v_eq]
  exact (has_ok oa c L x w hr h).mono fun v w' ⟨e1, e2⟩ => ⟨e1, by rw [e2]; exact Below.refl _ _⟩
theorem insB_mem {L : List ByteArray} {x : ByteArray} (i : Nat) : (L.take i ++ [x] ++ L.drop i).length = L.length + 1 ∧ ∀ y, y ∈ L.take i ++ [x] ++ L.drop i ↔ y ∈ L ∨ y = x := by
 refine ⟨by simp; omega, fun y => ?_⟩
 rw [List.mem_append, List.mem_append, List.mem_singleton]
 constructor
 ·rintro ((h | h) | h)
  ·exact .inl (List.mem_of_mem_take h)
  ·exact .inr h
  ·exact .inl (List.mem_of_mem_drop h)
 ·rintro (h | h)
  ·rw [← List.take_append_drop i L] at h
   rcases List.mem_append.1 h with h | h
   ·exact .inl (.inl h)
   ·exact .inr h
  ·exact .inl (.inr h)
theorem insertA (L : List ByteArray) (x : ByteArray) (hl : L.length ≤ 4000000) : AFn Tryz.prog G 113 [.lst 1 (L.map sB), sv x] 0 [] (fun a n H => ∃ M : List ByteArray, M.length = L.length + 1 ∧ (∀ y, y ∈ M ↔ y ∈ L ∨ y = x) ∧ Own1 9 1 (M.map sB) a n H) := by
 refine afn_of Tryz.func113 rfl mixed (by kernel_rfl) ?_
 conv=>whnf
 refine aloop ws113_1 0 [5] (fun i : Nat => [(5, iv i)]) (fun _ => []) (fun i => i ≤ L.length) (fun i => L.length - i) [] [] 0 (by kernel_rfl) (fun _ => rfl) rfl (Nat.zero_le _) (by trivial) (by trivial) ?_
 intro i hi
 conv=>whnf
 apply vif_split <;> intro h
 ·have hlt : i < L.length := by simp at h; omega
  have hg := List.getElem?_eq_getElem hlt
  generalize L[i] = y at *
  conv=>whnf
  refine AIn.mk' i rfl (lmZ hlt) ?_
  conv=>whnf
  refine ARd.mapAt hg ?_
  conv=>whnf
  apply vif_split <;> intro h
  ·conv=>whnf
   refine AAr.i64 (by omega) ?_
   conv=>whnf
   exact aback (i + 1) [] [] rfl (by show L.length - (i + 1) < L.length - i; omega) hlt (by trivial) (by trivial)
  ·conv=>whnf
   (refine adraw pln113 [0, 1, 2, 3, 4] (by kernel_rfl) ?_; conv=>whnf)
   repeat' (first
    | (refine And.intro ?_ ?_ <;> (conv=>whnf))
    | (refine ABd.mk' 0 i rfl rfl (Nat.zero_le _) (by rw [List.length_map]; omega) ?_; conv=>whnf)
    | (refine ABd.mk' i L.length rfl (by rw [List.length_map]) hi (by rw [List.length_map]; exact Nat.le_refl _) ?_; conv=>whnf)
    | (refine VReq.mk (app_ok (by simp only [cut, List.length_map, List.length_append, List.length_cons, List.length_nil, List.length_take, List.length_drop]; omega) (by kernel_rfl)) ?_; conv=>whnf))
   all_goals (refine aend (.own 0) 1 [(0, .rows 9 1 ((L.take i ++ [x] ++ L.drop i).map sB))] [(0, .lab 4)] [] ⟨L.take i ++ [x] ++ L.drop i, (insB_mem i).1, (insB_mem i).2, rfl, rfl, rfl⟩ rfl ⟨⟨rfl, rfl, ?_⟩, trivial⟩ (by trivial))
   all_goals (rw [List.map_append, List.map_append, List.map_take, List.map_drop]; rfl)
 ·conv=>whnf
  (refine adraw pln113 [0, 1, 2, 3, 4] (by kernel_rfl) ?_; conv=>whnf)
  repeat' (first
   | (refine And.intro ?_ ?_ <;> (conv=>whnf))
   | (refine ABd.mk' 0 i rfl rfl (Nat.zero_le _) (by rw [List.length_map]; omega) ?_; conv=>whnf)
   | (refine ABd.mk' i L.length rfl (by rw [List.length_map]) hi (by rw [List.length_map]; exact Nat.le_refl _) ?_; conv=>whnf)
   | (refine VReq.mk (app_ok (by simp only [cut, List.length_map, List.length_append, List.length_cons, List.length_nil, List.length_take, List.length_drop]; omega) (by kernel_rfl)) ?_; conv=>whnf))
  all_goals (refine aend (.own 0) 1 [(0, .rows 9 1 ((L.take i ++ [x] ++ L.drop i).map sB))] [(0, .lab 4)] [] ⟨L.take i ++ [x] ++ L.drop i, (insB_mem i).1, (insB_mem i).2, rfl, rfl, rfl⟩ rfl ⟨⟨rfl, rfl, ?_⟩, trivial⟩ (by trivial))
  all_goals (rw [List.map_append, List.map_append, List.map_take, List.map_drop]; rfl)
structure MX where
 L : List ByteArray
 again : Bool
structure MY where
 i : Nat
 M : List ByteArray
 again : Bool
structure MOK (ls : List Lk) (id : ByteArray) (L : List ByteArray) : Prop where
 len : L.length + away L ls ≤ 1 + 2 * ls.length
 me : id ∈ L
 con : ∀ y, y ∈ L → con ls id y
theorem away_top (L : List ByteArray) (l : List Lk) : away L l ≤ 2 * l.length := by
 induction l with
 | nil => exact Nat.le_refl _
 | cons k l ih =>
  simp only [away, List.length_cons]
  have hb : ∀ b : Bool, (bif b then 0 else 1 : Nat) ≤ 1 := fun b => by cases b <;> decide
  have h1 := hb (hasB L k.a)
  have h2 := hb (hasB L k.b)
  omega
theorem MOK.put {ls : List Lk} {id s : ByteArray} {M M' : List ByteArray} {k : Lk} (h : MOK ls id M) (hkm : k ∈ ls) (hs : s ∉ M) (hM : ∀ y, y ∈ M' ↔ y ∈ M ∨ y = s) (hl : M'.length = M.length + 1) (hks : k.a = s ∨ k.b = s) (hc : Id.con ls id s) : MOK ls id M' ∧ away M' ls < away M ls := by
 have h1 := away_lt (L := M) (M := M') (fun y hy => (hM y).2 (.inl hy)) hs ((hM s).2 (.inr rfl)) ls ⟨k, hkm, hks⟩
 have := h.len
 refine ⟨⟨by omega, (hM id).2 (.inl h.me), fun y hy => ?_⟩, h1⟩
 rcases (hM y).1 hy with e | e
 ·exact h.con y e
 ·rw [e]; exact hc
theorem members2A (ls : List Lk) (id : ByteArray) (h : ls.length ≤ 1000000) : AFn Tryz.prog G 83 [lksA ls, sv id] 0 [] (fun a n H => ∃ L : List ByteArray, L.length ≤ 2000001 ∧ (∀ y, y ∈ L ↔ con ls id y) ∧ Own1 9 1 (L.map sB) a n H) := by
 refine afn_of Tryz.func83 rfl mixed (by kernel_rfl) ?_
 conv=>whnf
 refine aloop ws83_1 2 [5, 6] (fun x : MX => [(5, .own 1), (6, bv x.again)]) (fun x => [(1, .rows 9 1 (x.L.map sB))]) (fun x => MOK ls id x.L ∧ (x.again = false → ∀ k ∈ ls, (k.a ∈ x.L ↔ k.b ∈ x.L))) (fun x => 2 * away x.L ls + (bif x.again then 1 else 0)) [(1, .lab 0)] [] ⟨[id], true⟩ (by kernel_rfl) (fun _ => rfl) rfl ⟨⟨by have := away_top [id] ls; simp only [List.length_cons, List.length_nil]; omega, by simp, fun y hy => by simp at hy; subst hy; exact rfl⟩, fun e => by cases e⟩ (by trivial) (by trivial) ?_
 rintro ⟨L, again⟩ ⟨hL, hcl⟩
 change MOK ls id L at hL
 change again = false → ∀ k ∈ ls, (k.a ∈ L ↔ k.b ∈ L) at hcl
 conv=>whnf
 cases again with
 | false =>
  have hclo := hcl rfl
  have := hL.len
  conv=>whnf
  refine aend (.own 0) 1 _ [(0, .lab 1)] [] ⟨L, by omega, fun y => ⟨hL.con y, fun hy => (con_closed (fun z => z ∈ L) _ ls rfl hclo id y hy).1 hL.me⟩, rfl, rfl, rfl⟩ rfl (by trivial) (by trivial)
 | true =>
  conv=>whnf
  refine aloop ws83_2 3 [5, 6, 7] (fun x : MY => [(5, .own 2), (6, bv x.again), (7, iv x.i)]) (fun x => [(2, .rows 9 1 (x.M.map sB))])
   (fun x => x.i ≤ ls.length ∧ MOK ls id x.M ∧ (x.again = false → away x.M ls ≤ away L ls ∧ ∀ k ∈ ls.take x.i, (k.a ∈ x.M ↔ k.b ∈ x.M)) ∧ (x.again = true → away x.M ls < away L ls)) (fun x => ls.length - x.i) [(2, .lab 1)] [] ⟨0, L, false⟩ (by kernel_rfl) (fun _ => rfl) rfl
   ⟨Nat.zero_le _, hL, fun _ => ⟨Nat.le_refl _, fun k hk => by simp at hk⟩, fun e => by cases e⟩ (by trivial) (by trivial) ?_
  rintro ⟨i, M, again⟩ ⟨hi, hM, hf, ht⟩
  change i ≤ ls.length at hi
  change MOK ls id M at hM
  change again = false → away M ls ≤ away L ls ∧ ∀ k ∈ ls.take i, (k.a ∈ M ↔ k.b ∈ M) at hf
  change again = true → away M ls < away L ls at ht
  have hML := hM.len
  conv=>whnf
  apply vif_split <;> intro h
  rotate_left 1
  ·have hie : i = ls.length := by simp at h; omega
   subst hie
   rw [List.take_length] at hf
   conv=>whnf
   refine aback ⟨M, again⟩ [(1, .lab 2)] [] rfl ?_ ⟨hM, fun e => (hf e).2⟩ (by trivial) (by trivial)
   cases again with
   | true => have := ht rfl; simp only [cond_true]; omega
   | false => have := (hf rfl).1; simp only [cond_true, cond_false]; omega
  have hlt : i < ls.length := by simp at h; omega
  have hg := List.getElem?_eq_getElem hlt
  have hkm : ls[i] ∈ ls := List.getElem_mem hlt
  have hlk := con_link _ ls rfl ls[i] hkm
  have htk := List.take_succ_eq_append_getElem hlt
  generalize ls[i] = k at *
  have hnew : ∀ s M', s ∉ M → (∀ y, y ∈ M' ↔ y ∈ M ∨ y = s) → M'.length = M.length + 1 → (k.a = s ∨ k.b = s) → Id.con ls id s → MOK ls id M' ∧ away M' ls < away L ls := fun s M' a1 a2 a3 a4 a5 => by
   obtain ⟨b1, b2⟩ := hM.put hkm a1 a2 a3 a4 a5
   refine ⟨b1, ?_⟩
   cases again with
   | true => have := ht rfl; omega
   | false => have := (hf rfl).1; omega
  conv=>whnf
  (refine adraw pln83 [2] (by kernel_rfl) ?_; conv=>whnf)
  repeat' (first
   | (refine And.intro ?_ ?_ <;> (conv=>whnf))
   | (refine AIn.mk' i rfl (lmZ hlt) ?_; conv=>whnf)
   | (refine ARd.mapAt hg ?_; conv=>whnf)
   | (refine acall [2] (by kernel_rfl) (hasA M k.a (by omega)) rfl ?_ ?_; (focus (trivial; done)); (conv=>whnf))
   | (refine acall [2] (by kernel_rfl) (hasA M k.b (by omega)) rfl ?_ ?_; (focus (trivial; done)); (conv=>whnf)))
  refine vif_split (fun hab => ?_) (fun hab => ?_)
  ·have hab : hasB M k.a = hasB M k.b := by simpa using hab
   have habm : k.a ∈ M ↔ k.b ∈ M := by rw [← hasB_iff, ← hasB_iff, hab]
   conv=>whnf
   refine AAr.i64 (by (try dsimp only); omega) ?_
   conv=>whnf
   refine aback ⟨i + 1, M, again⟩ [(2, .lab 2)] [] rfl (by show ls.length - (i + 1) < ls.length - i; omega) ⟨hlt, hM, fun e => ⟨(hf e).1, fun k' hk' => ?_⟩, ht⟩ (by trivial) (by trivial)
   rw [htk] at hk'
   rcases List.mem_append.1 hk' with h | h
   ·exact (hf e).2 k' h
   ·rw [List.mem_singleton.1 h]; exact habm
  ·have hab : hasB M k.a ≠ hasB M k.b := by intro e; simp [e] at hab
   conv=>whnf
   refine AIn.mk' i rfl (lmZ hlt) ?_
   conv=>whnf
   refine ARd.mapAt hg ?_
   conv=>whnf
   cases ha : hasB M k.a with
   | true =>
    have hb : hasB M k.b = false := by cases hb : hasB M k.b with
     | false => rfl
     | true => exact absurd (ha.trans hb.symm) hab
    conv=>whnf
    refine AIn.mk' i rfl (lmZ hlt) ?_
    conv=>whnf
    refine ARd.mapAt hg ?_
    conv=>whnf
    refine acallF [2] (by kernel_rfl) (insertA M k.b (by omega)) ?_ ?_; (focus trivial)
    rintro _ _ _ ⟨M', hl', hm', rfl, rfl, rfl⟩
    obtain ⟨f1, f2⟩ := hnew k.b M' ((hasB_not _ _).1 hb) hm' hl' (.inr rfl) ((hM.con _ ((hasB_iff _ _).1 ha)).trans hlk)
    conv=>whnf
    refine AAr.i64 (by (try dsimp only); omega) ?_
    conv=>whnf
    exact aback ⟨i + 1, M', true⟩ [(2, .lab 3)] [] rfl (by show ls.length - (i + 1) < ls.length - i; omega) ⟨hlt, f1, (fun e => by cases e), fun _ => f2⟩ (by trivial) (by trivial)
   | false =>
    have hb : hasB M k.b = true := by cases hb : hasB M k.b with
     | true => rfl
     | false => exact absurd (ha.trans hb.symm) hab
    conv=>whnf
    refine acallF [2] (by kernel_rfl) (insertA M k.a (by omega)) ?_ ?_; (focus trivial)
    rintro _ _ _ ⟨M', hl', hm', rfl, rfl, rfl⟩
    obtain ⟨f1, f2⟩ := hnew k.a M' ((hasB_not _ _).1 ha) hm' hl' (.inl rfl) ((hM.con _ ((hasB_iff _ _).1 hb)).trans hlk.symm)
    conv=>whnf
    refine AAr.i64 (by (try dsimp only); omega) ?_
    conv=>whnf
    exact aback ⟨i + 1, M', true⟩ [(2, .lab 3)] [] rfl (by show ls.length - (i + 1) < ls.length - i; omega) ⟨hlt, f1, (fun e => by cases e), fun _ => f2⟩ (by trivial) (by trivial)
theorem ow_members {ls : List Lk} {t : Int} {id : By} {L : List ByteArray} (hL : ∀ y, y ∈ L ↔ Id.con (unt t ls) (ba id) y) (x : Ex) : (decide (x.time ≤ t) && hasB L (ba x.id)) = owP ls t id x := by
 have e : hasB L (ba x.id) = decide (rtA ls t x.id = rtA ls t id) := by
  rw [Bool.eq_iff_iff, hasB_iff, hL, decide_eq_true_iff]
  exact ⟨fun h => Eq.symm h, fun h => Eq.symm h⟩
 rw [e]
 rfl
theorem owner2A (l : List Ev) (xs : List Ex) (id : By) (t : Int) (hl : l.length ≤ 50000) (hx : xs.length ≤ 100000) : AFn Tryz.prog G 55 [el l, exL xs, tv id, iv t] 0 [] (Is (iv (owI (lksE l) xs id t))) := by
 have hls : (lksE l).length ≤ 50000 := by unfold lksE; rw [List.length_map]; have := ofK_le 3 l; omega
 refine afn_of Tryz.func55 rfl mixed (by kernel_rfl) ?_
 conv=>whnf
 (refine acallF [] (by kernel_rfl) (links2A l (by omega)) ?_ ?_; (focus trivial))
 rintro _ _ _ ⟨rfl, rfl, rfl⟩
 generalize lksE l = ls at *
 conv=>whnf
 (refine acallF [] (by kernel_rfl) (AFn.frz (until2A ls t (by omega))) ?_ ?_; (focus trivial))
 rintro _ _ _ ⟨rfl, rfl, rfl⟩
 have hul := unt_len t ls
 conv=>whnf
 (refine acallF [] (by kernel_rfl) (members2A (unt t ls) (ba id) (by omega)) ?_ ?_; (focus trivial))
 rintro _ _ _ ⟨L, hLl, hL, rfl, rfl, rfl⟩
 have how := fun x => ow_members (t := t) (ls := ls) (id := id) hL x
 conv=>whnf
 refine aloop ws55_1 1 [11] (fun i : Nat => [(11, iv i)]) (fun i => [(0, .rows 9 1 (L.map sB))]) (fun i => i ≤ xs.length ∧ ∀ j (h : j < xs.length), j < i → owP ls t id xs[j] = false) (fun i => xs.length - i) [] [] 0 (by kernel_rfl) (fun _ => rfl) rfl ⟨Nat.zero_le _, fun j _ h => absurd h (Nat.not_lt_zero j)⟩ (by trivial) (by trivial) ?_
 rintro i ⟨hi, hno⟩
 conv=>whnf
 apply vif_split <;> intro h
 rotate_left 1
 ·have hie : i = xs.length := by simp at h; omega
  subst hie
  have e : owI ls xs id t = -1 := by unfold owI; rw [owO_none fun j h => hno j h h]
  conv=>whnf
  exact aret [] (by rw [e]; trivial)
 have hlt : i < xs.length := by simp at h; omega
 have hP := how xs[i]
 have hg := List.getElem?_eq_getElem hlt
 have hsome : owP ls t id xs[i] = true → owI ls xs id t = (i : Int) := fun h => by unfold owI; rw [owO_some hlt h fun j hj => hno j (by omega) hj]
 have hnext : owP ls t id xs[i] = false → i + 1 ≤ xs.length ∧ ∀ j (h : j < xs.length), j < i + 1 → owP ls t id xs[j] = false := fun h0 => ⟨hlt, fun j h hj => by
  rcases Nat.lt_or_ge j i with h1 | h1
  ·exact hno j h h1
  ·have : j = i := by omega
   subst this
   exact h0⟩
 generalize xs[i] = x at *
 conv=>whnf
 refine AIn.mk' i rfl (lmZ hlt) ?_
 conv=>whnf
 refine ARd.mapAt hg ?_
 conv=>whnf
 refine vif_split (fun h1 => ?_) (fun h1 => ?_)
 ·conv=>whnf
  refine AAr.i64 (by (try dsimp only); omega) ?_
  conv=>whnf
  exact aback (i + 1) [] [] rfl (by show xs.length - (i + 1) < xs.length - i; omega) (hnext (by rw [← hP, decide_eq_false (by simp at h1; omega)]; rfl)) (by trivial) (by trivial)
 have ht : x.time ≤ t := by simp at h1; omega
 rw [decide_eq_true ht, Bool.true_and] at hP
 conv=>whnf
 refine aloop ws55_2 1 [12] (fun k : Nat => [(12, iv k)]) (fun k => [(0, .rows 9 1 (L.map sB))]) (fun k => k ≤ L.length ∧ ba x.id ∉ L.take k) (fun k => L.length - k) [] [] 0 (by kernel_rfl) (fun _ => rfl) rfl ⟨Nat.zero_le _, by simp⟩ (by trivial) (by trivial) ?_
 rintro k ⟨hk, hnk⟩
 conv=>whnf
 refine vif_split (fun h2 => ?_) (fun h2 => ?_)
 ·have hlk : k < L.length := by simp at h2; omega
  have hgk := List.getElem?_eq_getElem hlk
  have hmk := List.getElem_mem hlk
  have htk := List.take_succ_eq_append_getElem hlk
  generalize L[k] = y at *
  conv=>whnf
  (refine adraw pln55 [] (by kernel_rfl) ?_; conv=>whnf)
  repeat' (first
   | (refine And.intro ?_ ?_ <;> (conv=>whnf))
   | (refine AIn.mk' i rfl (lmZ hlt) ?_; conv=>whnf)
   | (refine AIn.mk' k rfl (lmZ hlk) ?_; conv=>whnf)
   | (refine ARd.mapAt hg ?_; conv=>whnf)
   | (refine ARd.mapAt hgk ?_; conv=>whnf))
  refine vif_split (fun h3 => ?_) (fun h3 => ?_)
  ·have h3 := (sEq_iff _ _).1 h3
   have e := hsome (by rw [← hP]; exact (hasB_iff _ _).2 (by rw [show ba x.id = y from h3.symm]; exact hmk))
   conv=>whnf
   exact aret [] (by rw [e]; trivial)
  ·have h3 : ¬ y = ba x.id := fun e => by rw [(sEq_iff _ _).2 e] at h3; cases h3
   conv=>whnf
   refine AAr.i64 (by (try dsimp only); omega) ?_
   conv=>whnf
   refine aback (k + 1) [] [] rfl (by show L.length - (k + 1) < L.length - k; omega) ⟨hlk, ?_⟩ (by trivial) (by trivial)
   rw [htk]
   simp only [List.mem_append, List.mem_singleton, not_or]
   exact ⟨hnk, fun e => h3 e.symm⟩
 ·have hke : k = L.length := by simp at h2; omega
  subst hke
  rw [List.take_length] at hnk
  conv=>whnf
  refine AAr.i64 (by (try dsimp only); omega) ?_
  conv=>whnf
  exact aback (i + 1) [] [] rfl (by show xs.length - (i + 1) < xs.length - i; omega) (hnext (by rw [← hP]; exact (hasB_not _ _).2 hnk)) (by trivial) (by trivial)
end
def rsum (m : Mt) (l : List Ev) : Int := l.foldl (fun a e => if e.name = m.name ∧ m.least ≤ e.val then a + e.val else a) 0
def rcnt (m : Mt) (l : List Ev) : Int := l.foldl (fun a e => if e.name = m.name ∧ m.least ≤ e.val then a + 1 else a) 0
def rbel (m : Mt) (l : List Ev) : Int := l.foldl (fun a e => if e.name = m.below then a + e.val else a) 0
theorem fold_take {f : Int → Ev → Int} {l : List Ev} {i : Nat} (h : i < l.length) : (l.take (i + 1)).foldl f 0 = f ((l.take i).foldl f 0) l[i] := by rw [List.take_succ_eq_append_getElem h, List.foldl_append]; rfl
theorem r_rng {m : Mt} {l : List Ev} (h : MeasL l) : ∀ i, i ≤ l.length → (-1000000 * (i : Int) ≤ rsum m (l.take i) ∧ rsum m (l.take i) ≤ 1000000 * (i : Int)) ∧ (0 ≤ rcnt m (l.take i) ∧ rcnt m (l.take i) ≤ (i : Int)) ∧ (-1000000 * (i : Int) ≤ rbel m (l.take i) ∧ rbel m (l.take i) ≤ 1000000 * (i : Int)) := by
 intro i
 induction i with
 | zero => intro _; simp [rsum, rcnt, rbel]
 | succ i ih =>
  intro hi
  have h1 := ih (by omega)
  have hv := h.val _ (List.getElem_mem (show i < l.length by omega))
  unfold rsum rcnt rbel at *
  rw [fold_take (by omega), fold_take (by omega), fold_take (by omega)]
  refine ⟨?_, ?_, ?_⟩ <;> split <;> omega
theorem fold_eq {f g : Int → Ev → Int} (l : List Ev) (h : ∀ a e, f a e = g a e) : l.foldl f 0 = l.foldl g 0 := by
 have : f = g := by funext a e; exact h a e
 rw [this]
theorem mtV_sum {m : Mt} (l : List Ev) (h : m.kind = 1 ∨ m.kind = 4) : mtV m l = rsum m l := fold_eq l fun a e => by unfold mtW; rw [if_pos h]
theorem mtV_cnt {m : Mt} (l : List Ev) (h : ¬ (m.kind = 1 ∨ m.kind = 4)) : mtV m l = rcnt m l := fold_eq l fun a e => by unfold mtW; rw [if_neg h]
theorem mtB_bel {m : Mt} (l : List Ev) (h : m.kind = 4) : mtB m l = rbel m l := fold_eq l fun a e => by simp only [h, true_and]
theorem mtB_no {m : Mt} (l : List Ev) (h : ¬ m.kind = 4) : mtB m l = 0 := by
 unfold mtB
 induction l with
 | nil => rfl
 | cons e r ih => rw [List.foldl_cons, if_neg (fun h' => h h'.1)]; exact ih
theorem lim_0 {m : Mt} (h : mtC m = 0) : lim m 0 = 0 := by
 have : 1 ≤ m.cap := by
  unfold mtC at h
  split at h
  ·cases h
  split at h
  ·cases h
  split at h
  ·cases h
  ·rename_i h3; omega
 unfold lim; omega
theorem cap_1 {m : Mt} (h : mtC m = 0) (h3 : m.kind = 3) : m.cap = 1 := by
 unfold mtC at h
 split at h
 ·cases h
 split at h
 ·cases h
 split at h
 ·cases h
 split at h
 ·cases h
 ·rename_i h4
  by_cases hc : m.cap = 1
  ·exact hc
  ·exact absurd (.inr ⟨h3, hc⟩) h4
theorem limitedA (n c : Int) : AFn Tryz.prog GS 85 [iv n, iv c] 0 [] (Is (iv (max 0 (min n c)))) := by
 refine afn_of Tryz.func85 rfl mixed (by kernel_rfl) ?_
 conv=>whnf
 exact aret [] (by trivial)
theorem valueRA (m : Mt) (l : List Ev) (hm : mtC m = 0) (hl : MeasL l) (z1 : m.name.length ≤ 140737488355328) (z2 : m.below.length ≤ 140737488355328) : AFn Tryz.prog GS 56 [mtA m, el l] 0 [] (Is (.tup [iv (lim m (mtV m l)), iv (lim m (mtB m l))])) := by
 have hrg := r_rng (m := m) hl
 have hlen := hl.len
 refine afn_of Tryz.func56 rfl mixed (by kernel_rfl) ?_
 conv=>whnf
 (refine acall [] (by kernel_rfl) (mchk2 m z1 z2) rfl ?_ ?_; (focus trivial))
 rw [hm]
 conv=>whnf
 refine aloop ws56_1 1 [6, 7, 8, 9] (fun i : Nat => [(6, iv (rsum m (l.take i))), (7, iv (rcnt m (l.take i))), (8, iv (rbel m (l.take i))), (9, iv i)]) (fun i => [(0, mvB m)]) (fun i => i ≤ l.length) (fun i => l.length - i) [] [] 0 (by kernel_rfl) (fun _ => rfl) rfl (Nat.zero_le _) (by trivial) (by trivial) ?_
 intro i hi
 conv=>whnf
 apply vif_split <;> intro h
 ·have hlt : i < l.length := by simp at h; omega
  have hS : rsum m (l.take (i + 1)) = _ := fold_take hlt
  have hN : rcnt m (l.take (i + 1)) = _ := fold_take hlt
  have hB : rbel m (l.take (i + 1)) = _ := fold_take hlt
  have hr := hrg i hi
  have hv := hl.val _ (List.getElem_mem hlt)
  have hk := hl.kind _ (List.getElem_mem hlt)
  have hg := List.getElem?_eq_getElem hlt
  change _ = (if l[i].name = m.name ∧ m.least ≤ l[i].val then rsum m (l.take i) + l[i].val else rsum m (l.take i)) at hS
  change _ = (if l[i].name = m.name ∧ m.least ≤ l[i].val then rcnt m (l.take i) + 1 else rcnt m (l.take i)) at hN
  change _ = (if l[i].name = m.below then rbel m (l.take i) + l[i].val else rbel m (l.take i)) at hB
  generalize l[i] = e at *
  generalize rsum m (l.take i) = a at *
  generalize rcnt m (l.take i) = n at *
  generalize rbel m (l.take i) = b at *
  conv=>whnf
  refine AIn.mk' i rfl (lmZ hlt) ?_
  conv=>whnf
  refine ARd.mapAt hg ?_
  conv=>whnf
  refine vif_split (fun h0 => ?_) (fun h0 => ?_)
  ·exfalso; simp [hk] at h0
  conv=>whnf
  refine vif_split (fun h1 => ?_) (fun h1 => ?_)
  rotate_left 1
  ·have hno : ¬ (e.name = m.name ∧ m.least ≤ e.val) := fun h' => by simp [sEq_tx] at h1; exact h1 h'.1
   rw [if_neg hno] at hS hN
   conv=>whnf
   refine vif_split (fun h5 => ?_) (fun h5 => ?_)
   ·rw [if_pos (by simpa [sEq_tx] using h5)] at hB
    conv=>whnf
    refine AAr.i64 (by omega) ?_
    conv=>whnf
    refine AAr.i64 (by omega) ?_
    conv=>whnf
    exact aback (i + 1) [] [] rfl (by show l.length - (i + 1) < l.length - i; omega) hlt (by trivial) ⟨ciZ hS.symm, ciZ hN.symm, ciZ hB.symm, rfl, trivial⟩
   ·rw [if_neg (by simpa [sEq_tx] using h5)] at hB
    conv=>whnf
    refine AAr.i64 (by omega) ?_
    conv=>whnf
    exact aback (i + 1) [] [] rfl (by show l.length - (i + 1) < l.length - i; omega) hlt (by trivial) ⟨ciZ hS.symm, ciZ hN.symm, ciZ hB.symm, rfl, trivial⟩
  conv=>whnf
  refine vif_split (fun h2 => ?_) (fun h2 => ?_)
  rotate_left 1
  ·have hno : ¬ (e.name = m.name ∧ m.least ≤ e.val) := fun h' => by simp at h2; omega
   rw [if_neg hno] at hS hN
   conv=>whnf
   refine vif_split (fun h5 => ?_) (fun h5 => ?_)
   ·rw [if_pos (by simpa [sEq_tx] using h5)] at hB
    conv=>whnf
    refine AAr.i64 (by omega) ?_
    conv=>whnf
    refine AAr.i64 (by omega) ?_
    conv=>whnf
    exact aback (i + 1) [] [] rfl (by show l.length - (i + 1) < l.length - i; omega) hlt (by trivial) ⟨ciZ hS.symm, ciZ hN.symm, ciZ hB.symm, rfl, trivial⟩
   ·rw [if_neg (by simpa [sEq_tx] using h5)] at hB
    conv=>whnf
    refine AAr.i64 (by omega) ?_
    conv=>whnf
    exact aback (i + 1) [] [] rfl (by show l.length - (i + 1) < l.length - i; omega) hlt (by trivial) ⟨ciZ hS.symm, ciZ hN.symm, ciZ hB.symm, rfl, trivial⟩
  have hyes : e.name = m.name ∧ m.least ≤ e.val := ⟨by simpa [sEq_tx] using h1, by simpa using h2⟩
  rw [if_pos hyes] at hS hN
  conv=>whnf
  refine AAr.i64 (by omega) ?_
  conv=>whnf
  refine AAr.i64 (by omega) ?_
  ·skip
   conv=>whnf
   refine vif_split (fun h5 => ?_) (fun h5 => ?_)
   ·rw [if_pos (by simpa [sEq_tx] using h5)] at hB
    conv=>whnf
    refine AAr.i64 (by omega) ?_
    conv=>whnf
    refine AAr.i64 (by omega) ?_
    conv=>whnf
    exact aback (i + 1) [] [] rfl (by show l.length - (i + 1) < l.length - i; omega) hlt (by trivial) ⟨ciZ hS.symm, ciZ hN.symm, ciZ hB.symm, rfl, trivial⟩
   ·rw [if_neg (by simpa [sEq_tx] using h5)] at hB
    conv=>whnf
    refine AAr.i64 (by omega) ?_
    conv=>whnf
    exact aback (i + 1) [] [] rfl (by show l.length - (i + 1) < l.length - i; omega) hlt (by trivial) ⟨ciZ hS.symm, ciZ hN.symm, ciZ hB.symm, rfl, trivial⟩
 ·have hie : i = l.length := by simp at h; omega
  subst hie
  rw [List.take_length]
  rcases mtC_kind hm with hk | hk | hk | hk
  ·rw [mtV_sum l (.inl hk), mtB_no l (by omega), lim_0 hm]
   conv=>whnf
   apply vif_split <;> intro h
   ·exfalso; simp [hk] at h
   conv=>whnf
   apply vif_split <;> intro h
   ·exfalso; simp [hk] at h
   conv=>whnf
   apply vif_split <;> intro h
   ·exfalso; simp [hk] at h
   conv=>whnf
   (refine acall [] (by kernel_rfl) (limitedA (rsum m l) m.cap) rfl ?_ ?_; (focus trivial))
   conv=>whnf
   exact aret [] (by trivial)
  ·rw [mtV_cnt l (by omega), mtB_no l (by omega), lim_0 hm]
   conv=>whnf
   apply vif_split <;> intro h
   rotate_left 1
   ·exfalso; simp [hk] at h
   conv=>whnf
   (refine acall [] (by kernel_rfl) (limitedA (rcnt m l) m.cap) rfl ?_ ?_; (focus trivial))
   conv=>whnf
   exact aret [] (by trivial)
  ·rw [mtV_cnt l (by omega), mtB_no l (by omega), lim_0 hm]
   conv=>whnf
   apply vif_split <;> intro h
   ·exfalso; simp [hk] at h
   conv=>whnf
   apply vif_split <;> intro h
   rotate_left 1
   ·exfalso; simp [hk] at h
   conv=>whnf
   (refine acall [] (by kernel_rfl) (limitedA (rcnt m l) 1) rfl ?_ ?_; (focus trivial))
   conv=>whnf
   exact aret [] (by unfold lim; rw [cap_1 hm hk]; trivial)
  ·rw [mtV_sum l (.inr hk), mtB_bel l hk]
   conv=>whnf
   apply vif_split <;> intro h
   ·exfalso; simp [hk] at h
   conv=>whnf
   apply vif_split <;> intro h
   ·exfalso; simp [hk] at h
   conv=>whnf
   apply vif_split <;> intro h
   rotate_left 1
   ·exfalso; simp [hk] at h
   conv=>whnf
   (refine adraw pln56 [] (by kernel_rfl) ?_; conv=>whnf)
   repeat' (first
    | (refine And.intro ?_ ?_ <;> (conv=>whnf))
    | ((refine acall [] (by kernel_rfl) (limitedA (rsum m l) m.cap) rfl ?_ ?_; (focus (trivial; done)); (conv=>whnf)))
    | ((refine acall [] (by kernel_rfl) (limitedA (rbel m l) m.cap) rfl ?_ ?_; (focus (trivial; done)); (conv=>whnf))))
   all_goals exact aret [] (by trivial)
def owL (ls : List Lk) (xs : List Ex) (l : List Ev) : Li := l.map fun e => owI ls xs e.id e.time
def fillL0 (A : Li) (i : Nat) : Li := A.take i ++ List.replicate (A.length - i) 0
theorem fillL0_len {A : Li} {i : Nat} (h : i ≤ A.length) : (fillL0 A i).length = A.length := by unfold fillL0; simp; omega
theorem fillL0_set {A : Li} {i : Nat} {a : Int} (h : A[i]? = some a) : (fillL0 A i).set i a = fillL0 A (i + 1) := by
 obtain ⟨hi, rfl⟩ := List.getElem?_eq_some_iff.1 h
 unfold fillL0
 rw [List.take_succ_eq_append_getElem hi, List.set_append_right _ _ (by simp; omega)]
 simp only [List.length_take]
 rw [show i - min i A.length = 0 by omega, show A.length - i = (A.length - (i + 1)) + 1 by omega, List.replicate_succ, List.set_cons_zero, List.append_assoc]
 rfl
theorem owI_eq {ls : List Lk} {xs : List Ex} {id : By} {t : Int} {k : Nat} : owI ls xs id t = (k : Int) ↔ owO ls xs id t = some k := by
 unfold owI
 cases owO ls xs id t with
 | none => simp; try omega
 | some j => simp; try omega
theorem samples2A (l : List Ev) (name : By) (m : Mt) (mark : Int) (hB : EvB l) (hasc : l.Pairwise fun a b => a.time ≤ b.time) (z1 : m.name.length ≤ 140737488355328) (z2 : m.below.length ≤ 140737488355328) :
  AFn Tryz.prog GS 25 [el l, tv name, mtA m, iv mark] 0 [] (Is (smL (if mtC m = 0 then smpS l name m mark else []))) := by
 have hlen := hB.len
 have hls : (lksE l).length ≤ 50000 := by unfold lksE; rw [List.length_map]; have := ofK_le 3 l; omega
 refine afn_of Tryz.func25 rfl mixed (by kernel_rfl) ?_
 conv=>whnf
 (refine acall [] (by kernel_rfl) (mchk2 m z1 z2) rfl ?_ ?_; (focus trivial))
 conv=>whnf
 apply vif_split <;> intro h
 ·rw [if_neg (by simpa using h)]
  conv=>whnf
  exact aret [] (by trivial)
 have hm : mtC m = 0 := by simpa using h
 rw [if_pos hm]
 obtain ⟨rw, rc, rl, rb⟩ := mtC_rng hm
 have htm := hB.tim hm name
 conv=>whnf
 (refine acallF [] (by kernel_rfl) (first2A l name (by omega) hasc) ?_ ?_; (focus trivial))
 rintro _ _ _ ⟨rfl, rfl, rfl⟩
 have hall := smpN_all l name m mark
 have hsucc := fun (i : Nat) => smpN_succ (l := l) (name := name) (m := m) (mark := mark) (i := i)
 have hsl := smpN_len l name m mark
 have hse : ∀ k x, smpE l name m k x = ⟨x, lim m (mtV m (insE (lksE l) (fstS l name) m.window k x (ofK 2 l))), lim m (mtB m (insE (lksE l) (fstS l name) m.window k x (ofK 2 l))), if m.before = 0 then 0 else lim m (mtV m (befE (lksE l) m.before x (ofK 2 l))), mixE (lksE l) (fstS l name) name m.window k x (ofK 1 l)⟩ := fun _ _ => rfl
 have hxl : (fstS l name).length ≤ 10000 := Nat.le_trans (fstX_len _ _ _) (Nat.le_trans (ofK_le 1 l) hlen)
 have hown := fun id t => owner2A (G := GS) l (fstS l name) id t (by omega) (by omega)
 generalize fstS l name = xs at *
 have hlk := links2A (G := GS) l (by omega)
 generalize hlsx : lksE l = ls at *
 conv=>whnf
 refine AMk.mk' (by_ := 8) l.length (by rw [List.length_map]) (by rw [List.length_map]) ⟨by omega, by unfold maxLen; omega⟩ ?_
 have hol : (owL ls xs l).length = l.length := by unfold owL; simp
 conv=>whnf
 refine aloop ws25_1 2 [11] (fun i : Nat => [(11, iv i)]) (fun i => [(0, mvB m), (1, .rows 3 1 ((fillL0 (owL ls xs l) i).map enI))]) (fun i => i ≤ l.length) (fun i => l.length - i) [] [] 0 (by kernel_rfl) (fun _ => rfl) rfl (Nat.zero_le _) ⟨(by trivial), ⟨rfl, rfl, ?_⟩, trivial⟩ (by trivial) ?_
 ·unfold fillL0
  rw [List.take_zero, List.nil_append, Nat.sub_zero, hol, List.map_replicate]
  rfl
 intro i hi
 conv=>whnf
 apply vif_split <;> intro h
 ·have hlt : i < l.length := by simp at h; omega
  have hg := List.getElem?_eq_getElem hlt
  have hoi : (owL ls xs l)[i]? = some (owI ls xs l[i].id l[i].time) := by unfold owL; rw [List.getElem?_map, hg]; rfl
  have hst := fillL0_set hoi
  have hfl := fillL0_len (A := owL ls xs l) (i := i) (by omega)
  generalize l[i] = e at *
  conv=>whnf
  (refine adraw pln25 [1] (by kernel_rfl) ?_; conv=>whnf)
  have ho := hown e.id e.time
  repeat' (first
   | (refine And.intro ?_ ?_ <;> (conv=>whnf))
   | (refine AIn.mk' i rfl (lmZ hlt) ?_; conv=>whnf)
   | (refine AIn.mk' i rfl (by rw [List.length_map, hfl, hol]; exact hlt) ?_; conv=>whnf)
   | (refine ARd.mapAt hg ?_; conv=>whnf)
   | (refine ARd.map (by rw [hfl, hol]; exact hlt) ?_; conv=>whnf)
   | ((refine acall [] (by kernel_rfl) (ho) rfl ?_ ?_; (focus (trivial; done)); (conv=>whnf))))
  refine AAr.i64 (by omega) ?_
  conv=>whnf
  refine aback (i + 1) [] [] rfl (by show l.length - (i + 1) < l.length - i; omega) hlt ⟨(by trivial), ⟨rfl, rfl, ?_⟩, trivial⟩ (by trivial)
  rw [← hst, List.map_set]
  rfl
 have hie : i = l.length := by simp at h; omega
 subst hie
 have hfa : fillL0 (owL ls xs l) l.length = owL ls xs l := by unfold fillL0; rw [List.take_of_length_le (by omega), hol]; simp
 rw [hfa]
 have hog : ∀ (i : Nat) (e : Ev), l[i]? = some e → (owL ls xs l)[i]? = some (owI ls xs e.id e.time) := fun i e h => by unfold owL; rw [List.getElem?_map, h]; rfl
 generalize owL ls xs l = ow at *
 conv=>whnf
 refine aloop ws25_2 3 [12, 13] (fun k : Nat => [(12, .own 2), (13, iv k)]) (fun k => [(0, mvB m), (1, .rows 3 1 (ow.map enI)), (2, .rows 96 10 ((smpN l name m mark k).map smF))]) (fun k => k ≤ xs.length) (fun k => xs.length - k) [(2, .nil)] [] 0 (by kernel_rfl) (fun _ => rfl) rfl (Nat.zero_le _) (by trivial) (by trivial) ?_
 intro k hk
 conv=>whnf
 apply vif_split <;> intro h
 rotate_left 1
 ·have hke : k = xs.length := by simp at h; omega
  subst hke
  rw [hall]
  conv=>whnf
  exact aret [2] (by trivial)
 have hlk2 : k < xs.length := by simp at h; omega
 have hgx := List.getElem?_eq_getElem hlk2
 have htx := htm.xs _ (List.getElem_mem hlk2)
 have hs := hsucc k hlk2
 have hownk : ∀ id t, owO ls xs id t = some k → xs[k].time ≤ t := fun id t ho => by
  obtain ⟨_, hp⟩ := owO_lt ho
  unfold owP at hp
  simp only [Bool.and_eq_true, decide_eq_true_eq] at hp
  exact hp.1
 have hse := hse k xs[k]
 have hsk := hsl k
 generalize xs[k] = x at *
 generalize smpN l name m mark k = out at *
 conv=>whnf
 (refine adraw pln25 [] (by kernel_rfl) ?_; conv=>whnf)
 refine AIn.mk' k rfl (lmZ hlk2) ?_
 conv=>whnf
 refine ARd.mapAt hgx ?_
 conv=>whnf
 refine AAr.i64 (by omega) ?_
 conv=>whnf
 refine vif_split (fun h1 => ?_) (fun h1 => ?_)
 ·rw [if_neg (by simp at h1; omega)] at hs
  conv=>whnf
  refine AAr.i64 (by omega) ?_
  conv=>whnf
  exact aback (k + 1) [(2, .lab 2)] [] rfl (by show xs.length - (k + 1) < xs.length - k; omega) hlk2 ⟨(by trivial), (by trivial), ⟨rfl, rfl, by rw [hs]⟩, trivial⟩ (by trivial)
 rw [if_pos (by simp at h1; omega)] at hs
 conv=>whnf
 refine AIn.mk' k rfl (lmZ hlk2) ?_
 conv=>whnf
 refine ARd.mapAt hgx ?_
 conv=>whnf
 have hu2 := AFn.frz (until2A (G := GS) ls x.time (by omega))
 have hul := unt_len x.time ls
 (refine adraw pln25 [] (by kernel_rfl) ?_; conv=>whnf)
 repeat' (first
  | (refine And.intro ?_ ?_ <;> (conv=>whnf))
  | (refine AIn.mk' k rfl (lmZ hlk2) ?_; conv=>whnf)
  | (refine ARd.mapAt hgx ?_; conv=>whnf)
  | ((refine acallF [] (by kernel_rfl) (hlk) ?_ ?_; (focus (trivial; done)); rintro _ _ _ ⟨rfl, rfl, rfl⟩; (conv=>whnf)))
  | ((refine acallF [] (by kernel_rfl) (hu2) ?_ ?_; (focus (trivial; done)); rintro _ _ _ ⟨rfl, rfl, rfl⟩; (conv=>whnf))))
 refine aloop ws25_3 6 [15, 16, 18] (fun i : Nat => [(15, .own 4), (16, .own 5), (18, iv i)]) (fun i => [(0, mvB m), (1, .rows 3 1 (ow.map enI)), (2, .rows 96 10 (out.map smF)), (3, .var 96 ((smF ⟨x, 0, 0, 0, mixE ls xs name m.window k x (ofK 1 (l.take i))⟩).map FV.up)), (4, .rows 55 10 ((insE ls xs m.window k x (ofK 2 (l.take i))).map enE)), (5, .rows 55 10 ((befE ls m.before x (ofK 2 (l.take i))).map enE))]) (fun i => i ≤ l.length) (fun i => l.length - i) [(4, .nil), (5, .nil)] [] 0 (by kernel_rfl) (fun _ => rfl) rfl (Nat.zero_le _) (by trivial) (by trivial) ?_
 intro i hi
 conv=>whnf
 refine vif_split (fun h2 => ?_) (fun h2 => ?_)
 rotate_left 1
 ·have hie : i = l.length := by simp at h2; omega
  subst hie
  rw [List.take_length]
  have hMe : MeasL (insE ls xs m.window k x (ofK 2 l)) := hB.meas (insE_sub _ _ _ _ _ _) (Nat.le_trans (insE_len _ _ _ _ _ _) (Nat.le_trans (ofK_le 2 l) hlen))
  have hMb : MeasL (befE ls m.before x (ofK 2 l)) := hB.meas (befE_sub _ _ _ _) (Nat.le_trans (befE_len _ _ _ _) (Nat.le_trans (ofK_le 2 l) hlen))
  generalize insE ls xs m.window k x (ofK 2 l) = ins at *
  generalize befE ls m.before x (ofK 2 l) = bf at *
  generalize mixE ls xs name m.window k x (ofK 1 l) = mx at *
  conv=>whnf
  refine acall [4] (by kernel_rfl) (valueRA m ins hm hMe z1 z2) rfl ?_ ?_; (focus trivial)
  conv=>whnf
  refine vif_split (fun h3 => ?_) (fun h3 => ?_)
  rotate_left 1
  ·have hb0 : m.before = 0 := by simp at h3; omega
   rw [if_pos hb0] at hse
   conv=>whnf
   refine VReq.mk (app_ok (by simp only [List.length_map, List.length_cons, List.length_nil]; omega) (by kernel_rfl)) ?_
   conv=>whnf
   refine AAr.i64 (by omega) ?_
   conv=>whnf
   refine aback (k + 1) [(2, .lab 7)] [] rfl (by show xs.length - (k + 1) < xs.length - k; omega) hlk2 ⟨(by trivial), (by trivial), ⟨rfl, rfl, ?_⟩, trivial⟩ (by trivial)
   rw [hs, hse, List.map_append]
   rfl
  rw [if_neg (show ¬ m.before = 0 by simp at h3; omega)] at hse
  conv=>whnf
  refine acall [5] (by kernel_rfl) (valueRA m bf hm hMb z1 z2) rfl ?_ ?_; (focus trivial)
  conv=>whnf
  refine VReq.mk (app_ok (by simp only [List.length_map, List.length_cons, List.length_nil]; omega) (by kernel_rfl)) ?_
  conv=>whnf
  refine AAr.i64 (by omega) ?_
  conv=>whnf
  refine aback (k + 1) [(2, .lab 7)] [] rfl (by show xs.length - (k + 1) < xs.length - k; omega) hlk2 ⟨(by trivial), (by trivial), ⟨rfl, rfl, ?_⟩, trivial⟩ (by trivial)
  rw [hs, hse, List.map_append]
  rfl
 have hlt : i < l.length := by simp at h2; omega
 have hg := List.getElem?_eq_getElem hlt
 have hoi := hog i _ hg
 have hte := hB.time _ (List.getElem_mem hlt)
 have ho1 := ofK_take (k := 1) hlt
 have ho2 := ofK_take (k := 2) hlt
 have hl1 : (insE ls xs m.window k x (ofK 2 (l.take i))).length ≤ 10000 := Nat.le_trans (insE_len _ _ _ _ _ _) (Nat.le_trans (ofK_le _ _) (by rw [List.length_take]; omega))
 have hl2 : (befE ls m.before x (ofK 2 (l.take i))).length ≤ 10000 := Nat.le_trans (befE_len _ _ _ _) (Nat.le_trans (ofK_le _ _) (by rw [List.length_take]; omega))
 generalize l[i] = e at *
 have hI : insE ls xs m.window k x (ofK 2 (l.take (i + 1))) = if e.kind = 2 ∧ owO ls xs e.id e.time = some k ∧ e.time < x.time + m.window then insE ls xs m.window k x (ofK 2 (l.take i)) ++ [e] else insE ls xs m.window k x (ofK 2 (l.take i)) := by
  rw [ho2]
  by_cases hk2 : e.kind = 2
  ·rw [if_pos hk2, insE_snoc]; simp only [hk2, true_and]
  ·rw [if_neg hk2, if_neg fun h => hk2 h.1]
 have hBf : befE ls m.before x (ofK 2 (l.take (i + 1))) = if e.kind = 2 ∧ x.time - m.before ≤ e.time ∧ e.time < x.time ∧ rtA ls x.time e.id = rtA ls x.time x.id then befE ls m.before x (ofK 2 (l.take i)) ++ [e] else befE ls m.before x (ofK 2 (l.take i)) := by
  rw [ho2]
  by_cases hk2 : e.kind = 2
  ·rw [if_pos hk2, befE_snoc]; simp only [hk2, true_and]
  ·rw [if_neg hk2, if_neg fun h => hk2 h.1]
 have hMx : mixE ls xs name m.window k x (ofK 1 (l.take (i + 1))) = if e.kind = 1 ∧ owO ls xs e.id e.time = some k ∧ e.time < x.time + m.window then mixE ls xs name m.window k x (ofK 1 (l.take i)) || (decide (e.name = name) && !decide (e.arm = x.arm)) else mixE ls xs name m.window k x (ofK 1 (l.take i)) := by
  rw [ho1]
  by_cases hk1 : e.kind = 1
  ·rw [if_pos hk1, mixE_snoc]; simp only [hk1, true_and]
  ·rw [if_neg hk1, if_neg fun h => hk1 h.1]
 clear ho1 ho2
 generalize insE ls xs m.window k x (ofK 2 (l.take i)) = wi at *
 generalize befE ls m.before x (ofK 2 (l.take i)) = bf at *
 generalize mixE ls xs name m.window k x (ofK 1 (l.take i)) = mx at *
 conv=>whnf
 refine AIn.mk' i rfl (lmZ hlt) ?_
 conv=>whnf
 refine ARd.mapAt hg ?_
 conv=>whnf
 have hol2 : i < ow.length := by omega
 by_cases hk2 : e.kind = 2
 ·rw [if_neg fun h => by omega] at hMx
  (refine adraw pln25 [] (by kernel_rfl) ?_; conv=>whnf)
  refine AIn.mk' i rfl (lmZ hol2) ?_
  conv=>whnf
  refine ARd.mapAt hoi ?_
  conv=>whnf
  refine vif_split (fun h3 => ?_) (fun h3 => ?_)
  rotate_left 1
  ·rw [if_neg fun h => by rw [owI_eq.2 h.2.1] at h3; simp at h3] at hI
   conv=>whnf
   (refine adraw pln25 [] (by kernel_rfl) ?_; conv=>whnf)
   refine vif_split (fun q => ?_) (fun q => ?_)
   rotate_left 1
   ·exfalso; simp at q; omega
   conv=>whnf
   refine AIn.mk' k rfl (lmZ hlk2) ?_
   conv=>whnf
   refine ARd.mapAt hgx ?_
   conv=>whnf
   refine AAr.i64 (by omega) ?_
   conv=>whnf
   refine vif_split (fun u1 => ?_) (fun u1 => ?_)
   rotate_left 1
   ·skip
    rw [if_neg (fun h => by simp at u1; omega)] at hBf
    conv=>whnf
    refine AAr.i64 (by omega) ?_
    conv=>whnf
    exact aback (i + 1) [(4, .lab 4), (5, .lab 5)] [] rfl (by show l.length - (i + 1) < l.length - i; omega) hlt ⟨(by trivial), (by trivial), (by trivial), ⟨rfl, by rw [hMx]; trivial⟩, ⟨rfl, rfl, by rw [hI]; skip⟩, ⟨rfl, rfl, by rw [hBf]⟩, trivial⟩ (by trivial)
   conv=>whnf
   refine AIn.mk' k rfl (lmZ hlk2) ?_
   conv=>whnf
   refine ARd.mapAt hgx ?_
   conv=>whnf
   refine vif_split (fun u2 => ?_) (fun u2 => ?_)
   rotate_left 1
   ·skip
    rw [if_neg (fun h => by simp at u2; omega)] at hBf
    conv=>whnf
    refine AAr.i64 (by omega) ?_
    conv=>whnf
    exact aback (i + 1) [(4, .lab 4), (5, .lab 5)] [] rfl (by show l.length - (i + 1) < l.length - i; omega) hlt ⟨(by trivial), (by trivial), (by trivial), ⟨rfl, by rw [hMx]; trivial⟩, ⟨rfl, rfl, by rw [hI]; skip⟩, ⟨rfl, rfl, by rw [hBf]⟩, trivial⟩ (by trivial)
   conv=>whnf
   refine AIn.mk' k rfl (lmZ hlk2) ?_
   conv=>whnf
   refine ARd.mapAt hgx ?_
   conv=>whnf
   have sm := same2A (G := GS) (unt x.time ls) (ba e.id) (ba x.id) (by omega)
   (refine acall [] (by kernel_rfl) (sm) rfl ?_ ?_; (focus (trivial; done)); (conv=>whnf))
   refine vif_split (fun u3 => ?_) (fun u3 => ?_)
   rotate_left 1
   ·skip
    rw [if_neg (fun h => (of_decide_eq_false u3) h.2.2.2)] at hBf
    conv=>whnf
    refine AAr.i64 (by omega) ?_
    conv=>whnf
    exact aback (i + 1) [(4, .lab 4), (5, .lab 5)] [] rfl (by show l.length - (i + 1) < l.length - i; omega) hlt ⟨(by trivial), (by trivial), (by trivial), ⟨rfl, by rw [hMx]; trivial⟩, ⟨rfl, rfl, by rw [hI]; skip⟩, ⟨rfl, rfl, by rw [hBf]⟩, trivial⟩ (by trivial)
   rw [if_pos ⟨hk2, by simp at u1; omega, by simp at u2; omega, of_decide_eq_true u3⟩] at hBf
   conv=>whnf
   refine VReq.mk (app_ok (by simp only [List.length_map, List.length_cons, List.length_nil]; omega) (by kernel_rfl)) ?_
   conv=>whnf
   refine AAr.i64 (by omega) ?_
   conv=>whnf
   refine aback (i + 1) [(4, .lab 4), (5, .lab 8)] [] rfl (by show l.length - (i + 1) < l.length - i; omega) hlt ⟨(by trivial), (by trivial), (by trivial), ⟨rfl, by rw [hMx]; trivial⟩, ⟨rfl, rfl, by rw [hI]; skip⟩, ⟨rfl, rfl, ?_⟩, trivial⟩ (by trivial)
   rw [hBf, List.map_append]
   rfl
  have ho : owO ls xs e.id e.time = some k := owI_eq.1 (by simpa using h3)
  have htg := hownk _ _ ho
  conv=>whnf
  refine AIn.mk' k rfl (lmZ hlk2) ?_
  conv=>whnf
  refine ARd.mapAt hgx ?_
  conv=>whnf
  refine vif_split (fun q => ?_) (fun q => ?_)
  rotate_left 1
  ·exfalso; simp at q; omega
  conv=>whnf
  refine AIn.mk' k rfl (lmZ hlk2) ?_
  conv=>whnf
  refine ARd.mapAt hgx ?_
  conv=>whnf
  refine AAr.i64 (by omega) ?_
  conv=>whnf
  refine vif_split (fun h4 => ?_) (fun h4 => ?_)
  rotate_left 1
  ·rw [if_neg fun h => by simp at h4; omega] at hI
   conv=>whnf
   (refine adraw pln25 [] (by kernel_rfl) ?_; conv=>whnf)
   refine vif_split (fun q => ?_) (fun q => ?_)
   rotate_left 1
   ·exfalso; simp at q; omega
   conv=>whnf
   refine AIn.mk' k rfl (lmZ hlk2) ?_
   conv=>whnf
   refine ARd.mapAt hgx ?_
   conv=>whnf
   refine AAr.i64 (by omega) ?_
   conv=>whnf
   refine vif_split (fun u1 => ?_) (fun u1 => ?_)
   rotate_left 1
   ·skip
    rw [if_neg (fun h => by simp at u1; omega)] at hBf
    conv=>whnf
    refine AAr.i64 (by omega) ?_
    conv=>whnf
    exact aback (i + 1) [(4, .lab 4), (5, .lab 5)] [] rfl (by show l.length - (i + 1) < l.length - i; omega) hlt ⟨(by trivial), (by trivial), (by trivial), ⟨rfl, by rw [hMx]; trivial⟩, ⟨rfl, rfl, by rw [hI]; skip⟩, ⟨rfl, rfl, by rw [hBf]⟩, trivial⟩ (by trivial)
   conv=>whnf
   refine AIn.mk' k rfl (lmZ hlk2) ?_
   conv=>whnf
   refine ARd.mapAt hgx ?_
   conv=>whnf
   refine vif_split (fun u2 => ?_) (fun u2 => ?_)
   rotate_left 1
   ·skip
    rw [if_neg (fun h => by simp at u2; omega)] at hBf
    conv=>whnf
    refine AAr.i64 (by omega) ?_
    conv=>whnf
    exact aback (i + 1) [(4, .lab 4), (5, .lab 5)] [] rfl (by show l.length - (i + 1) < l.length - i; omega) hlt ⟨(by trivial), (by trivial), (by trivial), ⟨rfl, by rw [hMx]; trivial⟩, ⟨rfl, rfl, by rw [hI]; skip⟩, ⟨rfl, rfl, by rw [hBf]⟩, trivial⟩ (by trivial)
   conv=>whnf
   refine AIn.mk' k rfl (lmZ hlk2) ?_
   conv=>whnf
   refine ARd.mapAt hgx ?_
   conv=>whnf
   have sm := same2A (G := GS) (unt x.time ls) (ba e.id) (ba x.id) (by omega)
   (refine acall [] (by kernel_rfl) (sm) rfl ?_ ?_; (focus (trivial; done)); (conv=>whnf))
   refine vif_split (fun u3 => ?_) (fun u3 => ?_)
   rotate_left 1
   ·skip
    rw [if_neg (fun h => (of_decide_eq_false u3) h.2.2.2)] at hBf
    conv=>whnf
    refine AAr.i64 (by omega) ?_
    conv=>whnf
    exact aback (i + 1) [(4, .lab 4), (5, .lab 5)] [] rfl (by show l.length - (i + 1) < l.length - i; omega) hlt ⟨(by trivial), (by trivial), (by trivial), ⟨rfl, by rw [hMx]; trivial⟩, ⟨rfl, rfl, by rw [hI]; skip⟩, ⟨rfl, rfl, by rw [hBf]⟩, trivial⟩ (by trivial)
   rw [if_pos ⟨hk2, by simp at u1; omega, by simp at u2; omega, of_decide_eq_true u3⟩] at hBf
   conv=>whnf
   refine VReq.mk (app_ok (by simp only [List.length_map, List.length_cons, List.length_nil]; omega) (by kernel_rfl)) ?_
   conv=>whnf
   refine AAr.i64 (by omega) ?_
   conv=>whnf
   refine aback (i + 1) [(4, .lab 4), (5, .lab 8)] [] rfl (by show l.length - (i + 1) < l.length - i; omega) hlt ⟨(by trivial), (by trivial), (by trivial), ⟨rfl, by rw [hMx]; trivial⟩, ⟨rfl, rfl, by rw [hI]; skip⟩, ⟨rfl, rfl, ?_⟩, trivial⟩ (by trivial)
   rw [hBf, List.map_append]
   rfl
  rw [if_pos ⟨hk2, ho, by simpa using h4⟩] at hI
  conv=>whnf
  refine vif_split (fun q => ?_) (fun q => ?_)
  rotate_left 1
  ·exfalso; simp at q; omega
  conv=>whnf
  refine VReq.mk (app_ok (by simp only [List.length_map, List.length_cons, List.length_nil]; omega) (by kernel_rfl)) ?_
  conv=>whnf
  (refine adraw pln25 [] (by kernel_rfl) ?_; conv=>whnf)
  refine vif_split (fun q => ?_) (fun q => ?_)
  ·exfalso; simp at q; omega
  conv=>whnf
  conv=>whnf
  (refine adraw pln25 [] (by kernel_rfl) ?_; conv=>whnf)
  refine vif_split (fun q => ?_) (fun q => ?_)
  rotate_left 1
  ·exfalso; simp at q; omega
  conv=>whnf
  refine AIn.mk' k rfl (lmZ hlk2) ?_
  conv=>whnf
  refine ARd.mapAt hgx ?_
  conv=>whnf
  refine AAr.i64 (by omega) ?_
  conv=>whnf
  refine vif_split (fun u1 => ?_) (fun u1 => ?_)
  rotate_left 1
  ·skip
   rw [if_neg (fun h => by simp at u1; omega)] at hBf
   conv=>whnf
   refine AAr.i64 (by omega) ?_
   conv=>whnf
   exact aback (i + 1) [(4, .lab 8), (5, .lab 5)] [] rfl (by show l.length - (i + 1) < l.length - i; omega) hlt ⟨(by trivial), (by trivial), (by trivial), ⟨rfl, by rw [hMx]; trivial⟩, ⟨rfl, rfl, by rw [hI]; (rw [List.map_append]; rfl)⟩, ⟨rfl, rfl, by rw [hBf]⟩, trivial⟩ (by trivial)
  conv=>whnf
  refine AIn.mk' k rfl (lmZ hlk2) ?_
  conv=>whnf
  refine ARd.mapAt hgx ?_
  conv=>whnf
  refine vif_split (fun u2 => ?_) (fun u2 => ?_)
  rotate_left 1
  ·skip
   rw [if_neg (fun h => by simp at u2; omega)] at hBf
   conv=>whnf
   refine AAr.i64 (by omega) ?_
   conv=>whnf
   exact aback (i + 1) [(4, .lab 8), (5, .lab 5)] [] rfl (by show l.length - (i + 1) < l.length - i; omega) hlt ⟨(by trivial), (by trivial), (by trivial), ⟨rfl, by rw [hMx]; trivial⟩, ⟨rfl, rfl, by rw [hI]; (rw [List.map_append]; rfl)⟩, ⟨rfl, rfl, by rw [hBf]⟩, trivial⟩ (by trivial)
  conv=>whnf
  refine AIn.mk' k rfl (lmZ hlk2) ?_
  conv=>whnf
  refine ARd.mapAt hgx ?_
  conv=>whnf
  have sm := same2A (G := GS) (unt x.time ls) (ba e.id) (ba x.id) (by omega)
  (refine acall [] (by kernel_rfl) (sm) rfl ?_ ?_; (focus (trivial; done)); (conv=>whnf))
  refine vif_split (fun u3 => ?_) (fun u3 => ?_)
  rotate_left 1
  ·skip
   rw [if_neg (fun h => (of_decide_eq_false u3) h.2.2.2)] at hBf
   conv=>whnf
   refine AAr.i64 (by omega) ?_
   conv=>whnf
   exact aback (i + 1) [(4, .lab 8), (5, .lab 5)] [] rfl (by show l.length - (i + 1) < l.length - i; omega) hlt ⟨(by trivial), (by trivial), (by trivial), ⟨rfl, by rw [hMx]; trivial⟩, ⟨rfl, rfl, by rw [hI]; (rw [List.map_append]; rfl)⟩, ⟨rfl, rfl, by rw [hBf]⟩, trivial⟩ (by trivial)
  rw [if_pos ⟨hk2, by simp at u1; omega, by simp at u2; omega, of_decide_eq_true u3⟩] at hBf
  conv=>whnf
  refine VReq.mk (app_ok (by simp only [List.length_map, List.length_cons, List.length_nil]; omega) (by kernel_rfl)) ?_
  conv=>whnf
  refine AAr.i64 (by omega) ?_
  conv=>whnf
  refine aback (i + 1) [(4, .lab 8), (5, .lab 10)] [] rfl (by show l.length - (i + 1) < l.length - i; omega) hlt ⟨(by trivial), (by trivial), (by trivial), ⟨rfl, by rw [hMx]; trivial⟩, ⟨rfl, rfl, by rw [hI]; (rw [List.map_append]; rfl)⟩, ⟨rfl, rfl, ?_⟩, trivial⟩ (by trivial)
  rw [hBf, List.map_append]
  rfl
 ·rw [if_neg fun h => hk2 h.1] at hI
  (refine adraw pln25 [] (by kernel_rfl) ?_; conv=>whnf)
  refine AIn.mk' i rfl (lmZ hol2) ?_
  conv=>whnf
  refine ARd.mapAt hoi ?_
  conv=>whnf
  refine vif_split (fun h3 => ?_) (fun h3 => ?_)
  rotate_left 1
  ·rw [if_neg fun h => by rw [owI_eq.2 h.2.1] at h3; simp at h3] at hMx
   conv=>whnf
   (refine adraw pln25 [] (by kernel_rfl) ?_; conv=>whnf)
   refine vif_split (fun q => ?_) (fun q => ?_)
   ·exfalso; simp at q; omega
   conv=>whnf
   rw [if_neg (fun h => hk2 h.1)] at hBf
   conv=>whnf
   refine AAr.i64 (by omega) ?_
   conv=>whnf
   exact aback (i + 1) [(4, .lab 4), (5, .lab 5)] [] rfl (by show l.length - (i + 1) < l.length - i; omega) hlt ⟨(by trivial), (by trivial), (by trivial), ⟨rfl, by rw [hMx]; trivial⟩, ⟨rfl, rfl, by rw [hI]; skip⟩, ⟨rfl, rfl, by rw [hBf]⟩, trivial⟩ (by trivial)
  have ho : owO ls xs e.id e.time = some k := owI_eq.1 (by simpa using h3)
  have htg := hownk _ _ ho
  conv=>whnf
  refine AIn.mk' k rfl (lmZ hlk2) ?_
  conv=>whnf
  refine ARd.mapAt hgx ?_
  conv=>whnf
  refine vif_split (fun q => ?_) (fun q => ?_)
  rotate_left 1
  ·exfalso; simp at q; omega
  conv=>whnf
  refine AIn.mk' k rfl (lmZ hlk2) ?_
  conv=>whnf
  refine ARd.mapAt hgx ?_
  conv=>whnf
  refine AAr.i64 (by omega) ?_
  conv=>whnf
  refine vif_split (fun h4 => ?_) (fun h4 => ?_)
  rotate_left 1
  ·rw [if_neg fun h => by simp at h4; omega] at hMx
   conv=>whnf
   (refine adraw pln25 [] (by kernel_rfl) ?_; conv=>whnf)
   refine vif_split (fun q => ?_) (fun q => ?_)
   ·exfalso; simp at q; omega
   conv=>whnf
   rw [if_neg (fun h => hk2 h.1)] at hBf
   conv=>whnf
   refine AAr.i64 (by omega) ?_
   conv=>whnf
   exact aback (i + 1) [(4, .lab 4), (5, .lab 5)] [] rfl (by show l.length - (i + 1) < l.length - i; omega) hlt ⟨(by trivial), (by trivial), (by trivial), ⟨rfl, by rw [hMx]; trivial⟩, ⟨rfl, rfl, by rw [hI]; skip⟩, ⟨rfl, rfl, by rw [hBf]⟩, trivial⟩ (by trivial)
  conv=>whnf
  refine vif_split (fun q => ?_) (fun q => ?_)
  ·exfalso; simp at q; omega
  conv=>whnf
  (refine adraw pln25 [] (by kernel_rfl) ?_; conv=>whnf)
  refine vif_split (fun h5 => ?_) (fun h5 => ?_)
  rotate_left 1
  ·rw [if_neg fun h => by simp at h5; exact h5 h.1] at hMx
   conv=>whnf
   (refine adraw pln25 [] (by kernel_rfl) ?_; conv=>whnf)
   refine vif_split (fun q => ?_) (fun q => ?_)
   ·exfalso; simp at q; omega
   conv=>whnf
   rw [if_neg (fun h => hk2 h.1)] at hBf
   conv=>whnf
   refine AAr.i64 (by omega) ?_
   conv=>whnf
   exact aback (i + 1) [(4, .lab 4), (5, .lab 5)] [] rfl (by show l.length - (i + 1) < l.length - i; omega) hlt ⟨(by trivial), (by trivial), (by trivial), ⟨rfl, by rw [hMx]; trivial⟩, ⟨rfl, rfl, by rw [hI]; skip⟩, ⟨rfl, rfl, by rw [hBf]⟩, trivial⟩ (by trivial)
  rw [if_pos ⟨by simpa using h5, ho, by simpa using h4⟩] at hMx
  conv=>whnf
  refine vif_split (fun h6 => ?_) (fun h6 => ?_)
  rotate_left 1
  ·have hn : ¬ e.name = name := by simpa [sEq_tx] using h6
   rw [decide_eq_false hn, Bool.false_and, Bool.or_false] at hMx
   conv=>whnf
   (refine adraw pln25 [] (by kernel_rfl) ?_; conv=>whnf)
   refine vif_split (fun q => ?_) (fun q => ?_)
   ·exfalso; simp at q; omega
   conv=>whnf
   rw [if_neg (fun h => hk2 h.1)] at hBf
   conv=>whnf
   refine AAr.i64 (by omega) ?_
   conv=>whnf
   exact aback (i + 1) [(4, .lab 4), (5, .lab 5)] [] rfl (by show l.length - (i + 1) < l.length - i; omega) hlt ⟨(by trivial), (by trivial), (by trivial), ⟨rfl, by rw [hMx]; trivial⟩, ⟨rfl, rfl, by rw [hI]; skip⟩, ⟨rfl, rfl, by rw [hBf]⟩, trivial⟩ (by trivial)
  have hn : e.name = name := by simpa [sEq_tx] using h6
  rw [decide_eq_true hn, Bool.true_and] at hMx
  conv=>whnf
  refine AIn.mk' k rfl (lmZ hlk2) ?_
  conv=>whnf
  refine ARd.mapAt hgx ?_
  conv=>whnf
  refine vif_split (fun h7 => ?_) (fun h7 => ?_)
  rotate_left 1
  ·have ha : e.arm = x.arm := by simpa using h7
   rw [decide_eq_true ha, Bool.not_true, Bool.or_false] at hMx
   conv=>whnf
   (refine adraw pln25 [] (by kernel_rfl) ?_; conv=>whnf)
   refine vif_split (fun q => ?_) (fun q => ?_)
   ·exfalso; simp at q; omega
   conv=>whnf
   rw [if_neg (fun h => hk2 h.1)] at hBf
   conv=>whnf
   refine AAr.i64 (by omega) ?_
   conv=>whnf
   exact aback (i + 1) [(4, .lab 4), (5, .lab 5)] [] rfl (by show l.length - (i + 1) < l.length - i; omega) hlt ⟨(by trivial), (by trivial), (by trivial), ⟨rfl, by rw [hMx]; trivial⟩, ⟨rfl, rfl, by rw [hI]; skip⟩, ⟨rfl, rfl, by rw [hBf]⟩, trivial⟩ (by trivial)
  have ha : ¬ e.arm = x.arm := by simpa using h7
  rw [decide_eq_false ha, Bool.not_false, Bool.or_true] at hMx
  conv=>whnf
  (refine adraw pln25 [] (by kernel_rfl) ?_; conv=>whnf)
  refine vif_split (fun q => ?_) (fun q => ?_)
  ·exfalso; simp at q; omega
  conv=>whnf
  rw [if_neg (fun h => hk2 h.1)] at hBf
  conv=>whnf
  refine AAr.i64 (by omega) ?_
  conv=>whnf
  exact aback (i + 1) [(4, .lab 4), (5, .lab 5)] [] rfl (by show l.length - (i + 1) < l.length - i; omega) hlt ⟨(by trivial), (by trivial), (by trivial), ⟨rfl, by rw [hMx]; trivial⟩, ⟨rfl, rfl, by rw [hI]; skip⟩, ⟨rfl, rfl, by rw [hBf]⟩, trivial⟩ (by trivial)
section
attribute [local irreducible] mtC kyM fstS pnC balS alrS uppS lowS illP thr smpS
end
section
theorem runR_drop {look : Int → Int → Int → Ac} {l : Li} {i : Nat} {st si la : Int} {n : Nat} {m : Int} (h : l[i]? = some m) : runR look (l.drop i) st si la n =
  if m < la then runR look (l.drop (i + 1)) st si la n
  else if n = 30 then []
  else look st si m :: (if (look st si m).kind = 2 then runR look (l.drop (i + 1)) (st + 1) m m (n + 1)
   else if 3 ≤ (look st si m).kind ∧ (look st si m).kind ≤ 5 then [] else runR look (l.drop (i + 1)) st si m (n + 1)) := by
 obtain ⟨hi, rfl⟩ := List.getElem?_eq_some_iff.1 h
 rw [List.drop_eq_getElem_cons hi]
 rfl
theorem runS_drop {p : Pn} {l : List Ev} {w : List Wg} {marks : Li} {m : Int} (hc : ¬ pnC p ≠ 0) (h : marks[0]? = some m) : runS p l w marks = runR (lookS p l w) (marks.drop 0) 0 m m 0 := by
 unfold runS
 rw [if_neg hc]
 cases marks with
 | nil => cases h
 | cons y r =>
  simp only [List.getElem?_cons_zero, Option.some.injEq] at h
  subst h
  rfl
structure KR3 where
 i : Nat
 st : Int
 si : Int
 la : Int
 out : List Ac
structure RunI (look : Int → Int → Int → Ac) (marks : Li) (A : List Ac) (x : KR3) : Prop where
 i : x.i ≤ marks.length
 st : 0 ≤ x.st ∧ x.st ≤ x.out.length
 si : I64 x.si
 la : I64 x.la
 out : x.out.length ≤ 30
 run : x.out ++ runR look (marks.drop x.i) x.st x.si x.la x.out.length = A
attribute [local irreducible] lookS pnC runR
theorem grunA (p : Pn) (l : List Ev) (w : List Wg) (marks : Li) (hz : PnZ p) (hB : EvB l) (hw : w.length ≤ 100000) (hm : AllI marks) (hml : marks.length ≤ 1000000000000) :
  AFn Tryz.prog GS 19 [pnA p, el l, wgL w, li marks] 0 [] (Is (acL (runS p l w marks))) := by
 obtain ⟨A, hA⟩ : ∃ A, A = runS p l w marks := ⟨_, rfl⟩
 rw [← hA]
 have hck := gcheckA p hz
 refine afn_of Tryz.func19 rfl mixed (by kernel_rfl) ?_
 conv=>whnf
 (refine acall [] (by kernel_rfl) (hck) rfl ?_ ?_; (focus trivial))
 conv=>whnf
 apply vif_split <;> intro h
 ·have hc : pnC p ≠ 0 := by simpa using h
  have : A = [] := by rw [hA]; unfold runS; rw [if_pos hc]
  subst this
  conv=>whnf
  exact aret [] (by trivial)
 have hc : ¬ pnC p ≠ 0 := by simpa using h
 conv=>whnf
 apply vif_split <;> intro h
 ·have h0 : marks = [] := by simp at h; exact h
  have : A = [] := by rw [hA]; unfold runS; rw [if_neg hc, h0]
  subst this
  conv=>whnf
  exact aret [] (by trivial)
 have h0 : 0 < marks.length := by simp at h; exact List.length_pos_iff.2 h
 have hg0 := List.getElem?_eq_getElem h0
 have hm0 := hm _ (List.getElem_mem h0)
 have hrun0 := runS_drop (l := l) (w := w) hc hg0
 rw [← hA] at hrun0
 generalize marks[0] = m0 at *
 clear hA
 have hlook := fun st si m h1 h2 h3 => glookA p l w st si m hz hB hw h1 h2 h3
 generalize lookS p l w = look at *
 conv=>whnf
 (refine adraw pln19 [] (by kernel_rfl) ?_; conv=>whnf)
 repeat' (first
  | (refine And.intro ?_ ?_ <;> (conv=>whnf))
  | (refine AIn.mk' 0 rfl (lmZ h0) ?_; conv=>whnf)
  | (refine ARd.mapAt hg0 ?_; conv=>whnf))
 refine aloop ws19_1 2 [9, 10, 11, 12, 32] (fun x : KR3 => [(9, .own 1), (10, iv x.st), (11, iv x.si), (12, iv x.la), (32, iv x.i)]) (fun x => [(1, .rows 46 7 (x.out.map acF)), (0, pnB p)]) (RunI look marks A) (fun x => marks.length - x.i) [(1, .nil)] [] ⟨0, 0, m0, m0, []⟩ (by kernel_rfl) (fun _ => rfl) rfl ⟨Nat.zero_le _, ⟨by show (0 : Int) ≤ 0; decide, by show (0 : Int) ≤ 0; decide⟩, hm0, hm0, by show 0 ≤ 30; decide, hrun0.symm⟩ (by trivial) (by trivial) ?_
 rintro ⟨i, st, si, la, out⟩ ⟨hi, hst, hsi, hla, ho, hrun⟩
 dsimp only at hi hst hsi hla ho hrun
 conv=>whnf
 apply vif_split <;> intro h
 rotate_left 1
 ·have hie : i = marks.length := by simp at h; omega
  subst hie
  rw [List.drop_length] at hrun
  have hA2 : out = A := by rw [← hrun]; rw [runR]; simp
  subst hA2
  conv=>whnf
  exact aend (acL out) 0 [] [] [1] ⟨rfl, rfl, rfl⟩ rfl trivial ⟨rfl, rfl, rfl⟩
 have hlt : i < marks.length := by simp at h; omega
 have hg := List.getElem?_eq_getElem hlt
 have hmI := hm _ (List.getElem_mem hlt)
 generalize marks[i] = m at *
 rw [runR_drop hg] at hrun
 conv=>whnf
 refine AIn.mk' i rfl (lmZ hlt) ?_
 conv=>whnf
 refine ARd.mapAt hg ?_
 conv=>whnf
 refine vif_split (fun h1 => ?_) (fun h1 => ?_)
 ·have c1 : m < la := by simpa using h1
  rw [if_pos c1] at hrun
  conv=>whnf
  refine AAr.i64 (by show _ ≤ (i : Int) + 1 ∧ (i : Int) + 1 ≤ _; omega) ?_
  conv=>whnf
  exact aback ⟨i + 1, st, si, la, out⟩ [(1, .lab 1)] [] rfl (by show marks.length - (i + 1) < marks.length - i; omega) ⟨hlt, hst, hsi, hla, ho, hrun⟩ (by trivial) (by trivial)
 have c1 : ¬ m < la := by simpa using h1
 rw [if_neg c1] at hrun
 conv=>whnf
 refine vif_split (fun h2 => ?_) (fun h2 => ?_)
 ·have c2 : out.length = 30 := by simp at h2; omega
  rw [if_pos c2] at hrun
  have hA2 : out = A := by rw [← hrun]; simp
  subst hA2
  conv=>whnf
  exact aend (acL out) 0 [] [] [1] ⟨rfl, rfl, rfl⟩ rfl trivial ⟨rfl, rfl, rfl⟩
 have c2 : ¬ out.length = 30 := by simp at h2; omega
 rw [if_neg c2] at hrun
 have hlk := hlook st si m ⟨by omega, by omega⟩ hsi hmI
 generalize look st si m = a at *
 conv=>whnf
 (refine acall [] (by kernel_rfl) (hlk) rfl ?_ ?_; (focus trivial))
 conv=>whnf
 refine VReq.mk (app_ok (by simp only [List.length_map, List.length_cons, List.length_nil]; omega) (by kernel_rfl)) ?_
 conv=>whnf
 refine vif_split (fun h2 => ?_) (fun h2 => ?_)
 ·have k2 : a.kind = 2 := by simpa using h2
  rw [if_pos k2] at hrun
  conv=>whnf
  refine AAr.i64 (by (try dsimp only); omega) ?_
  have hon : (out ++ [a]).length = out.length + 1 := by rw [List.length_append]; rfl
  have hmp : out.map acF ++ [acF a] = (out ++ [a]).map acF := by rw [List.map_append]; rfl
  conv=>whnf
  refine AAr.i64 (by show _ ≤ (i : Int) + 1 ∧ (i : Int) + 1 ≤ _; omega) ?_
  conv=>whnf
  exact aback ⟨i + 1, st + 1, m, m, out ++ [a]⟩ [(1, .lab 4)] [] rfl (by show marks.length - (i + 1) < marks.length - i; omega) ⟨hlt, by dsimp only; omega, hmI, hmI, by dsimp only; omega, by show (out ++ [a]) ++ runR look (marks.drop (i + 1)) (st + 1) (m) m (out ++ [a]).length = A; rw [hon, List.append_assoc]; exact hrun⟩ ⟨⟨rfl, rfl, hmp⟩, (by trivial), trivial⟩ (by trivial)
 have k2 : ¬ a.kind = 2 := by simpa using h2
 rw [if_neg k2] at hrun
 by_cases k3 : 3 ≤ a.kind ∧ a.kind ≤ 5
 ·rw [if_pos k3] at hrun
  have hmp : out.map acF ++ [acF a] = A.map acF := by rw [← hrun, List.map_append]; rfl
  conv=>whnf
  repeat' (refine vif_split (fun h9 => ?_) (fun h9 => ?_) <;> (first | (exfalso; simp only [beq_iff_eq, beq_eq_false_iff_ne, ne_eq] at *; omega) | (conv=>whnf)))
  all_goals exact aend (acL A) 0 [] [] [4] ⟨rfl, rfl, rfl⟩ rfl trivial ⟨rfl, rfl, hmp⟩
 rw [if_neg k3] at hrun
 conv=>whnf
 repeat' (refine vif_split (fun h9 => ?_) (fun h9 => ?_) <;> (first | (exfalso; simp only [beq_iff_eq, beq_eq_false_iff_ne, ne_eq] at *; omega) | (conv=>whnf)))
 have hon : (out ++ [a]).length = out.length + 1 := by rw [List.length_append]; rfl
 have hmp : out.map acF ++ [acF a] = (out ++ [a]).map acF := by rw [List.map_append]; rfl
 conv=>whnf
 refine AAr.i64 (by show _ ≤ (i : Int) + 1 ∧ (i : Int) + 1 ≤ _; omega) ?_
 conv=>whnf
 exact aback ⟨i + 1, st, si, m, out ++ [a]⟩ [(1, .lab 4)] [] rfl (by show marks.length - (i + 1) < marks.length - i; omega) ⟨hlt, by dsimp only; omega, hsi, hmI, by dsimp only; omega, by show (out ++ [a]) ++ runR look (marks.drop (i + 1)) (st) (si) m (out ++ [a]).length = A; rw [hon, List.append_assoc]; exact hrun⟩ ⟨⟨rfl, rfl, hmp⟩, (by trivial), trivial⟩ (by trivial)
end
structure MtP (m : Mt) : Prop where
 kind : 1 ≤ m.kind ∧ m.kind ≤ 4
 name : m.name ∈ namT
 below : (m.kind = 4 ∧ m.below ∈ namT) ∨ (¬ m.kind = 4 ∧ m.below = [])
 window : 1 ≤ m.window ∧ m.window ≤ 30
 cap : 1 ≤ m.cap ∧ m.cap ≤ 50
 cap3 : m.kind = 3 → m.cap = 1
 least : m.least = -1099511627776 ∨ (-3 ≤ m.least ∧ m.least ≤ 6)
 before : 0 ≤ m.before ∧ m.before ≤ 19
theorem namT_ky : ∀ s ∈ namT, kyM s = true := by
 intro s hs
 simp only [namT, List.mem_cons, List.not_mem_nil, or_false] at hs
 rcases hs with rfl | rfl <;> kernel_rfl
theorem namT_ln : ∀ s ∈ namT, s.length ≤ 1000 := by decide
theorem MtP.ok {m : Mt} (h : MtP m) : mtC m = 0 := by
 obtain ⟨hk, hn, hb, hw, hc, h3, hl, hf⟩ := h
 unfold mtC
 rw [if_neg (by omega), if_neg, if_neg (by omega), if_neg]
 ·rintro (⟨h4, hne⟩ | ⟨h3', hc'⟩)
  ·rcases hb with ⟨h, _⟩ | ⟨_, h⟩
   ·exact h4 h
   ·exact hne h
  ·exact hc' (h3 h3')
 ·rw [namT_ky _ hn]
  rintro (h | ⟨h4, h⟩)
  ·cases h
  ·rcases hb with ⟨_, hb⟩ | ⟨hb, _⟩
   ·rw [namT_ky _ hb] at h; cases h
   ·exact hb h4
theorem MtP.z1 {m : Mt} (h : MtP m) : m.name.length ≤ 140737488355328 := Nat.le_trans (namT_ln _ h.name) (Nat.le_of_ble_eq_true rfl)
theorem MtP.z2 {m : Mt} (h : MtP m) : m.below.length ≤ 140737488355328 := by
 rcases h.below with ⟨_, hb⟩ | ⟨_, hb⟩
 ·exact Nat.le_trans (namT_ln _ hb) (Nat.le_of_ble_eq_true rfl)
 ·rw [hb]; exact Nat.zero_le _
def NxE (L : By) (p n v q : Nat) : Prop := v < n ∧ q ≤ L.length ∧ q ≤ p + 1 ∧ AFn Tryz.prog GS 36 [.ptr 0 0, iv n] 1 [(0, srB L p)] (fun a m H => a = iv v ∧ m = 1 ∧ H = [(0, srB L q)])
theorem nxE {L : By} {p : Nat} (hp : p ≤ L.length) (h : p ≤ 100000) (n : Nat) (hn : 0 < n) (hn2 : n ≤ 256) : ∃ v q, NxE L p n v q := ⟨nxV L p n, nxA L p, nxV_lt L p n hn, nxA_le hp, by unfold nxA; split <;> omega, nextB L p n hn hn2 h hp⟩
def MtO (a : AV) (n : Nat) (H : AHeap) : Prop := ∃ m, MtP m ∧ a = mtA m ∧ n = 0 ∧ H = []
theorem metricDA (L : By) : AFn Tryz.prog GS 29 [bs L] 0 [] MtO := by
 obtain ⟨v1, q1, b1, e1, f1, c1⟩ := nxE (L := L) (p := 0) (Nat.zero_le _) (by omega) 4 (by decide) (by decide)
 obtain ⟨v2, q2, b2, e2, f2, c2⟩ := nxE e1 (by omega) 2 (by decide) (by decide)
 obtain ⟨v3, q3, b3, e3, f3, c3⟩ := nxE e2 (by omega) 30 (by decide) (by decide)
 obtain ⟨v4, q4, b4, e4, f4, c4⟩ := nxE e3 (by omega) 50 (by decide) (by decide)
 refine afn_of Tryz.func29 rfl mixed (by kernel_rfl) ?_
 conv=>whnf
 obtain ⟨nm, hnm, hnb⟩ : ∃ nm, namT[v2]? = some nm ∧ nm ∈ namT := ⟨_, List.getElem?_eq_getElem (show v2 < 2 by omega), List.getElem_mem _⟩
 refine adrawC pln29 [1] [(4, 4), (8, 22)] 3 [(4, .ptr 2 0)] [(0, .var 35 [iv 0, tv [], tv [], iv 0, iv 0, iv 0, iv 0]), (1, srB L q4), (2, .var 35 [iv (1 + (v1 : Int)), tv nm, tv [], iv (1 + (v3 : Int)), iv (1 + (v4 : Int)), iv (-1099511627776), iv 0])] (by kernel_rfl) (by kernel_rfl) ?_ ?_
 ·conv=>whnf
  repeat' (first
   | (refine And.intro ?_ ?_ <;> (conv=>whnf))
   | (refine acallM [1] [] (by kernel_rfl) c1 rfl ?_ ?_ ?_; (focus (trivial; done)); (focus (trivial; done)); rintro _ _ _ ⟨rfl, rfl, rfl⟩; refine ⟨rfl, ?_⟩; conv=>whnf)
   | (refine acallM [1] [] (by kernel_rfl) c2 rfl ?_ ?_ ?_; (focus (trivial; done)); (focus (trivial; done)); rintro _ _ _ ⟨rfl, rfl, rfl⟩; refine ⟨rfl, ?_⟩; conv=>whnf)
   | (refine acallM [1] [] (by kernel_rfl) c3 rfl ?_ ?_ ?_; (focus (trivial; done)); (focus (trivial; done)); rintro _ _ _ ⟨rfl, rfl, rfl⟩; refine ⟨rfl, ?_⟩; conv=>whnf)
   | (refine acallM [1] [] (by kernel_rfl) c4 rfl ?_ ?_ ?_; (focus (trivial; done)); (focus (trivial; done)); rintro _ _ _ ⟨rfl, rfl, rfl⟩; refine ⟨rfl, ?_⟩; conv=>whnf)
   | ((refine acallF [] (by kernel_rfl) (namTA) ?_ ?_; (focus (trivial; done)); rintro _ _ _ ⟨rfl, rfl, rfl⟩; (conv=>whnf)))
   | (refine AIn.mk' v2 rfl (lmZ b2) ?_; conv=>whnf)
   | (refine ARd.mapAt hnm ?_; conv=>whnf)
   | (refine AAr.i64 (by omega) ?_; conv=>whnf))
  all_goals first
   | (refine arbD [(2, .lab 2)] [] ?_ ?_ ?_; (focus rfl); (focus trivial); (focus trivial); done)
   | (refine arbD [(2, .lab 3)] [] ?_ ?_ ?_; (focus rfl); (focus trivial); (focus trivial); done)
 conv=>whnf
 refine vif_split (fun h3 => ?_) (fun h3 => ?_)
 ·have hv : v1 = 2 := by simp at h3; omega
  conv=>whnf
  refine vif_split (fun h4 => ?_) (fun h4 => ?_)
  ·exfalso; simp at h4; omega
  obtain ⟨v5, q5, b5, e5, f5, c5⟩ := nxE e4 (by omega) 3 (by decide) (by decide)
  obtain ⟨v6, q6, b6, e6, f6, c6⟩ := nxE e5 (by omega) 10 (by decide) (by decide)
  conv=>whnf
  refine acallM [1] [] (by kernel_rfl) c5 rfl (by trivial) (by trivial) ?_
  rintro _ _ _ ⟨rfl, rfl, rfl⟩
  refine ⟨rfl, ?_⟩
  conv=>whnf
  refine vif_split (fun h5 => ?_) (fun h5 => ?_)
  ·conv=>whnf
   refine acallM [1] [] (by kernel_rfl) c6 rfl (by trivial) (by trivial) ?_
   rintro _ _ _ ⟨rfl, rfl, rfl⟩
   refine ⟨rfl, ?_⟩
   conv=>whnf
   refine AAr.i64 (by omega) ?_
   obtain ⟨v7, q7, b7, e7, f7, c7⟩ := nxE e6 (by omega) 2 (by decide) (by decide)
   obtain ⟨v8, q8, b8, e8, f8, c8⟩ := nxE e7 (by omega) 20 (by decide) (by decide)
   conv=>whnf
   refine acallM [1] [] (by kernel_rfl) c7 rfl (by trivial) (by trivial) ?_
   rintro _ _ _ ⟨rfl, rfl, rfl⟩
   refine ⟨rfl, ?_⟩
   conv=>whnf
   refine vif_split (fun h7 => ?_) (fun h7 => ?_)
   ·conv=>whnf
    refine acallM [1] [] (by kernel_rfl) c8 rfl (by trivial) (by trivial) ?_
    rintro _ _ _ ⟨rfl, rfl, rfl⟩
    refine ⟨rfl, ?_⟩
    conv=>whnf
    conv=>whnf
    exact aend (mtA ⟨1 + (v1 : Int), nm, [], 1 + (v3 : Int), 1, ((v6 : Int) - 3), (v8 : Int)⟩) 0 [] [] [] ⟨_, ⟨by dsimp only; omega, hnb, (.inr ⟨by dsimp only; omega, rfl⟩), by dsimp only; omega, by dsimp only; omega, (fun _ => rfl), by dsimp only; omega, by dsimp only; omega⟩, rfl, rfl, rfl⟩ rfl trivial (by trivial)
   ·skip
    conv=>whnf
    exact aend (mtA ⟨1 + (v1 : Int), nm, [], 1 + (v3 : Int), 1, ((v6 : Int) - 3), 0⟩) 0 [] [] [] ⟨_, ⟨by dsimp only; omega, hnb, (.inr ⟨by dsimp only; omega, rfl⟩), by dsimp only; omega, by dsimp only; omega, (fun _ => rfl), by dsimp only; omega, by dsimp only; omega⟩, rfl, rfl, rfl⟩ rfl trivial (by trivial)
  ·skip
   obtain ⟨v7, q7, b7, e7, f7, c7⟩ := nxE e5 (by omega) 2 (by decide) (by decide)
   obtain ⟨v8, q8, b8, e8, f8, c8⟩ := nxE e7 (by omega) 20 (by decide) (by decide)
   conv=>whnf
   refine acallM [1] [] (by kernel_rfl) c7 rfl (by trivial) (by trivial) ?_
   rintro _ _ _ ⟨rfl, rfl, rfl⟩
   refine ⟨rfl, ?_⟩
   conv=>whnf
   refine vif_split (fun h7 => ?_) (fun h7 => ?_)
   ·conv=>whnf
    refine acallM [1] [] (by kernel_rfl) c8 rfl (by trivial) (by trivial) ?_
    rintro _ _ _ ⟨rfl, rfl, rfl⟩
    refine ⟨rfl, ?_⟩
    conv=>whnf
    conv=>whnf
    exact aend (mtA ⟨1 + (v1 : Int), nm, [], 1 + (v3 : Int), 1, (-1099511627776), (v8 : Int)⟩) 0 [] [] [] ⟨_, ⟨by dsimp only; omega, hnb, (.inr ⟨by dsimp only; omega, rfl⟩), by dsimp only; omega, by dsimp only; omega, (fun _ => rfl), by dsimp only; omega, by dsimp only; omega⟩, rfl, rfl, rfl⟩ rfl trivial (by trivial)
   ·skip
    conv=>whnf
    exact aend (mtA ⟨1 + (v1 : Int), nm, [], 1 + (v3 : Int), 1, (-1099511627776), 0⟩) 0 [] [] [] ⟨_, ⟨by dsimp only; omega, hnb, (.inr ⟨by dsimp only; omega, rfl⟩), by dsimp only; omega, by dsimp only; omega, (fun _ => rfl), by dsimp only; omega, by dsimp only; omega⟩, rfl, rfl, rfl⟩ rfl trivial (by trivial)
 have hn3 : ¬ (1 + (v1 : Int)) = 3 := by simpa using h3
 conv=>whnf
 refine vif_split (fun h4 => ?_) (fun h4 => ?_)
 ·have hv : v1 = 3 := by simp at h4; omega
  obtain ⟨v9, q9, b9, e9, f9, c9⟩ := nxE e4 (by omega) 2 (by decide) (by decide)
  obtain ⟨nb, hnb2, hnb3⟩ : ∃ nm, namT[v9]? = some nm ∧ nm ∈ namT := ⟨_, List.getElem?_eq_getElem (show v9 < 2 by omega), List.getElem_mem _⟩
  conv=>whnf
  (refine acallF [] (by kernel_rfl) (namTA) ?_ ?_; (focus (trivial; done)); rintro _ _ _ ⟨rfl, rfl, rfl⟩; (conv=>whnf))
  refine acallM [1] [] (by kernel_rfl) c9 rfl (by trivial) (by trivial) ?_
  rintro _ _ _ ⟨rfl, rfl, rfl⟩
  refine ⟨rfl, ?_⟩
  conv=>whnf
  refine AIn.mk' v9 rfl (lmZ b9) ?_
  conv=>whnf
  refine ARd.mapAt hnb2 ?_
  conv=>whnf
  obtain ⟨v5, q5, b5, e5, f5, c5⟩ := nxE e9 (by omega) 3 (by decide) (by decide)
  obtain ⟨v6, q6, b6, e6, f6, c6⟩ := nxE e5 (by omega) 10 (by decide) (by decide)
  conv=>whnf
  refine acallM [1] [] (by kernel_rfl) c5 rfl (by trivial) (by trivial) ?_
  rintro _ _ _ ⟨rfl, rfl, rfl⟩
  refine ⟨rfl, ?_⟩
  conv=>whnf
  refine vif_split (fun h5 => ?_) (fun h5 => ?_)
  ·conv=>whnf
   refine acallM [1] [] (by kernel_rfl) c6 rfl (by trivial) (by trivial) ?_
   rintro _ _ _ ⟨rfl, rfl, rfl⟩
   refine ⟨rfl, ?_⟩
   conv=>whnf
   refine AAr.i64 (by omega) ?_
   obtain ⟨v7, q7, b7, e7, f7, c7⟩ := nxE e6 (by omega) 2 (by decide) (by decide)
   obtain ⟨v8, q8, b8, e8, f8, c8⟩ := nxE e7 (by omega) 20 (by decide) (by decide)
   conv=>whnf
   refine acallM [1] [] (by kernel_rfl) c7 rfl (by trivial) (by trivial) ?_
   rintro _ _ _ ⟨rfl, rfl, rfl⟩
   refine ⟨rfl, ?_⟩
   conv=>whnf
   refine vif_split (fun h7 => ?_) (fun h7 => ?_)
   ·conv=>whnf
    refine acallM [1] [] (by kernel_rfl) c8 rfl (by trivial) (by trivial) ?_
    rintro _ _ _ ⟨rfl, rfl, rfl⟩
    refine ⟨rfl, ?_⟩
    conv=>whnf
    conv=>whnf
    exact aend (mtA ⟨1 + (v1 : Int), nm, nb, 1 + (v3 : Int), (1 + (v4 : Int)), ((v6 : Int) - 3), (v8 : Int)⟩) 0 [] [] [] ⟨_, ⟨by dsimp only; omega, hnb, (.inl ⟨by dsimp only; omega, hnb3⟩), by dsimp only; omega, by dsimp only; omega, (fun h => absurd h hn3), by dsimp only; omega, by dsimp only; omega⟩, rfl, rfl, rfl⟩ rfl trivial (by trivial)
   ·skip
    conv=>whnf
    exact aend (mtA ⟨1 + (v1 : Int), nm, nb, 1 + (v3 : Int), (1 + (v4 : Int)), ((v6 : Int) - 3), 0⟩) 0 [] [] [] ⟨_, ⟨by dsimp only; omega, hnb, (.inl ⟨by dsimp only; omega, hnb3⟩), by dsimp only; omega, by dsimp only; omega, (fun h => absurd h hn3), by dsimp only; omega, by dsimp only; omega⟩, rfl, rfl, rfl⟩ rfl trivial (by trivial)
  ·skip
   obtain ⟨v7, q7, b7, e7, f7, c7⟩ := nxE e5 (by omega) 2 (by decide) (by decide)
   obtain ⟨v8, q8, b8, e8, f8, c8⟩ := nxE e7 (by omega) 20 (by decide) (by decide)
   conv=>whnf
   refine acallM [1] [] (by kernel_rfl) c7 rfl (by trivial) (by trivial) ?_
   rintro _ _ _ ⟨rfl, rfl, rfl⟩
   refine ⟨rfl, ?_⟩
   conv=>whnf
   refine vif_split (fun h7 => ?_) (fun h7 => ?_)
   ·conv=>whnf
    refine acallM [1] [] (by kernel_rfl) c8 rfl (by trivial) (by trivial) ?_
    rintro _ _ _ ⟨rfl, rfl, rfl⟩
    refine ⟨rfl, ?_⟩
    conv=>whnf
    conv=>whnf
    exact aend (mtA ⟨1 + (v1 : Int), nm, nb, 1 + (v3 : Int), (1 + (v4 : Int)), (-1099511627776), (v8 : Int)⟩) 0 [] [] [] ⟨_, ⟨by dsimp only; omega, hnb, (.inl ⟨by dsimp only; omega, hnb3⟩), by dsimp only; omega, by dsimp only; omega, (fun h => absurd h hn3), by dsimp only; omega, by dsimp only; omega⟩, rfl, rfl, rfl⟩ rfl trivial (by trivial)
   ·skip
    conv=>whnf
    exact aend (mtA ⟨1 + (v1 : Int), nm, nb, 1 + (v3 : Int), (1 + (v4 : Int)), (-1099511627776), 0⟩) 0 [] [] [] ⟨_, ⟨by dsimp only; omega, hnb, (.inl ⟨by dsimp only; omega, hnb3⟩), by dsimp only; omega, by dsimp only; omega, (fun h => absurd h hn3), by dsimp only; omega, by dsimp only; omega⟩, rfl, rfl, rfl⟩ rfl trivial (by trivial)
 have hn4 : ¬ (1 + (v1 : Int)) = 4 := by simpa using h4
 conv=>whnf
 obtain ⟨v5, q5, b5, e5, f5, c5⟩ := nxE e4 (by omega) 3 (by decide) (by decide)
 obtain ⟨v6, q6, b6, e6, f6, c6⟩ := nxE e5 (by omega) 10 (by decide) (by decide)
 conv=>whnf
 refine acallM [1] [] (by kernel_rfl) c5 rfl (by trivial) (by trivial) ?_
 rintro _ _ _ ⟨rfl, rfl, rfl⟩
 refine ⟨rfl, ?_⟩
 conv=>whnf
 refine vif_split (fun h5 => ?_) (fun h5 => ?_)
 ·conv=>whnf
  refine acallM [1] [] (by kernel_rfl) c6 rfl (by trivial) (by trivial) ?_
  rintro _ _ _ ⟨rfl, rfl, rfl⟩
  refine ⟨rfl, ?_⟩
  conv=>whnf
  refine AAr.i64 (by omega) ?_
  obtain ⟨v7, q7, b7, e7, f7, c7⟩ := nxE e6 (by omega) 2 (by decide) (by decide)
  obtain ⟨v8, q8, b8, e8, f8, c8⟩ := nxE e7 (by omega) 20 (by decide) (by decide)
  conv=>whnf
  refine acallM [1] [] (by kernel_rfl) c7 rfl (by trivial) (by trivial) ?_
  rintro _ _ _ ⟨rfl, rfl, rfl⟩
  refine ⟨rfl, ?_⟩
  conv=>whnf
  refine vif_split (fun h7 => ?_) (fun h7 => ?_)
  ·conv=>whnf
   refine acallM [1] [] (by kernel_rfl) c8 rfl (by trivial) (by trivial) ?_
   rintro _ _ _ ⟨rfl, rfl, rfl⟩
   refine ⟨rfl, ?_⟩
   conv=>whnf
   conv=>whnf
   exact aend (mtA ⟨1 + (v1 : Int), nm, [], 1 + (v3 : Int), (1 + (v4 : Int)), ((v6 : Int) - 3), (v8 : Int)⟩) 0 [] [] [] ⟨_, ⟨by dsimp only; omega, hnb, (.inr ⟨hn4, rfl⟩), by dsimp only; omega, by dsimp only; omega, (fun h => absurd h hn3), by dsimp only; omega, by dsimp only; omega⟩, rfl, rfl, rfl⟩ rfl trivial (by trivial)
  ·skip
   conv=>whnf
   exact aend (mtA ⟨1 + (v1 : Int), nm, [], 1 + (v3 : Int), (1 + (v4 : Int)), ((v6 : Int) - 3), 0⟩) 0 [] [] [] ⟨_, ⟨by dsimp only; omega, hnb, (.inr ⟨hn4, rfl⟩), by dsimp only; omega, by dsimp only; omega, (fun h => absurd h hn3), by dsimp only; omega, by dsimp only; omega⟩, rfl, rfl, rfl⟩ rfl trivial (by trivial)
 ·skip
  obtain ⟨v7, q7, b7, e7, f7, c7⟩ := nxE e5 (by omega) 2 (by decide) (by decide)
  obtain ⟨v8, q8, b8, e8, f8, c8⟩ := nxE e7 (by omega) 20 (by decide) (by decide)
  conv=>whnf
  refine acallM [1] [] (by kernel_rfl) c7 rfl (by trivial) (by trivial) ?_
  rintro _ _ _ ⟨rfl, rfl, rfl⟩
  refine ⟨rfl, ?_⟩
  conv=>whnf
  refine vif_split (fun h7 => ?_) (fun h7 => ?_)
  ·conv=>whnf
   refine acallM [1] [] (by kernel_rfl) c8 rfl (by trivial) (by trivial) ?_
   rintro _ _ _ ⟨rfl, rfl, rfl⟩
   refine ⟨rfl, ?_⟩
   conv=>whnf
   conv=>whnf
   exact aend (mtA ⟨1 + (v1 : Int), nm, [], 1 + (v3 : Int), (1 + (v4 : Int)), (-1099511627776), (v8 : Int)⟩) 0 [] [] [] ⟨_, ⟨by dsimp only; omega, hnb, (.inr ⟨hn4, rfl⟩), by dsimp only; omega, by dsimp only; omega, (fun h => absurd h hn3), by dsimp only; omega, by dsimp only; omega⟩, rfl, rfl, rfl⟩ rfl trivial (by trivial)
  ·skip
   conv=>whnf
   exact aend (mtA ⟨1 + (v1 : Int), nm, [], 1 + (v3 : Int), (1 + (v4 : Int)), (-1099511627776), 0⟩) 0 [] [] [] ⟨_, ⟨by dsimp only; omega, hnb, (.inr ⟨hn4, rfl⟩), by dsimp only; omega, by dsimp only; omega, (fun h => absurd h hn3), by dsimp only; omega, by dsimp only; omega⟩, rfl, rfl, rfl⟩ rfl trivial (by trivial)
end Go.Proofs.YtgfgndaoocfpdaaGreatDoor.Cl

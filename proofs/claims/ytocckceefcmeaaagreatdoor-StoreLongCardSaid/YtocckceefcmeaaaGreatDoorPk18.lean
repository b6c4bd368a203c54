/- Joined parts of the proof. What readChunk knows, in plain Lean -/
import Derived.Test.YtocckceefcmeaaaGreatDoorPk17
import Derived.Test.YtocckceefcmeaaaGreatDoorPk16
set_option linter.unusedVariables false
set_option linter.unusedSimpArgs false
set_option maxRecDepth 100000
set_option maxHeartbeats 16000000
namespace Go.Proofs.YtocckceefcmeaaaGreatDoor.Cl
open Go Go.RowKit Go.Proofs Go.Proofs.YtocckceefcmeaaaGreatDoor.Vc Go.Proofs.YtocckceefcmeaaaGreatDoor.Ax
section
attribute [local irreducible] best ints en bd txs dsT
def z0 : Ev := ⟨[], 0, 0, 0, [], [], [], 0, 0, 0⟩
def mg (s : Nat) (x : Ev) : Ev :=
 ⟨if 0 < s then x.client else [], if 1 < s then x.seq else 0, if 2 < s then x.kind else 0, if 3 < s then x.time else 0, if 4 < s then x.id else [], if 5 < s then x.name else [], if 6 < s then x.other else [], if 7 < s then x.ver else 0, if 8 < s then x.arm else 0, if 9 < s then x.val else 0⟩
def cols (c : List Ev) : List By := [txs (c.map (·.client)), ints (c.map (·.seq)), ints (c.map (·.kind)), ints (c.map (·.time)), txs (c.map (·.id)), txs (c.map (·.name)), txs (c.map (·.other)), ints (c.map (·.ver)), ints (c.map (·.arm)), ints (c.map (·.val))]
def rs (s : Nat) (c : List Ev) : By := ((cols c).drop s).flatten
theorem bdy_rs (c : List Ev) : bdy c = rs 0 c := by simp [bdy, rs, cols]
def GC2 (b : By) (n : Nat) (Q : List Ev → By → Prop) : Prop := ∀ c r, LOK c → c.length = n → b = chb c ++ r → Q c r
structure RCs (b : By) (n : Nat) (l : List Ev) (k : Nat) (ok : Bool) : Prop where
 good : ok = true → l.length = n ∧ (∀ e ∈ l, e.ok) ∧ k ≤ b.length
 bad : ok = false → l = [] ∧ k = 0
 full : GC2 b n fun c _ => ok = true ∧ l = c ∧ k = (chb c).length
theorem RCs.no {b : By} {n : Nat} (h : GC2 b n fun _ _ => False) : RCs b n [] 0 false := ⟨(fun h => by cases h), fun _ => ⟨rfl, rfl⟩, fun c r h1 h2 h3 => (h c r h1 h2 h3).elim⟩
structure KR (b : By) (n : Nat) (s : Nat) (l : List Ev) (body : By) : Prop where
 len : l.length = n
 ok : ∀ e ∈ l, e.ok
 sz : body.length ≤ 100000
 full : GC2 b n fun c _ => l = c.map (mg s) ∧ body = rs s c
def wz {α : Type} (g : Ev → α → Ev) (l : List Ev) (s : List α) (i : Nat) : List Ev := List.zipWith g (l.take i) (s.take i) ++ l.drop i
theorem wz_zero {α : Type} (g : Ev → α → Ev) (l : List Ev) (s : List α) : wz g l s 0 = l := by simp [wz]
theorem wz_len {α : Type} (g : Ev → α → Ev) (l : List Ev) (s : List α) (i : Nat) (h : s.length = l.length) : (wz g l s i).length = l.length := by simp [wz]; omega
theorem wz_all {α : Type} (g : Ev → α → Ev) (l : List Ev) (s : List α) (h : s.length = l.length) : wz g l s l.length = List.zipWith g l s := by
 unfold wz; rw [List.take_length, List.drop_length, List.append_nil, ← h, List.take_length]
theorem wz_at {α : Type} (g : Ev → α → Ev) (l : List Ev) (s : List α) (i : Nat) (hi : i < l.length) (h : s.length = l.length) : (wz g l s i)[i]? = some l[i] := by
 unfold wz
 have hz : (List.zipWith g (l.take i) (s.take i)).length = i := by simp; omega
 rw [List.getElem?_append_right (by omega), hz, Nat.sub_self, List.getElem?_drop, Nat.add_zero, List.getElem?_eq_getElem hi]
theorem wz_set {α : Type} (g : Ev → α → Ev) (l : List Ev) (s : List α) (i : Nat) (hi : i < l.length) (h : s.length = l.length) : (wz g l s i).set i (g l[i] (s[i]'(by omega))) = wz g l s (i + 1) := by
 have his : i < s.length := by omega
 have hz : (List.zipWith g (l.take i) (s.take i)).length = i := by simp; omega
 unfold wz
 rw [List.set_append_right _ _ (by omega), hz, Nat.sub_self, List.take_succ_eq_append_getElem hi, List.take_succ_eq_append_getElem his, List.zipWith_append (by simp; omega)]
 have e : List.drop i l = l[i] :: List.drop (i + 1) l := List.drop_eq_getElem_cons hi
 rw [e]
 show _ ++ (g l[i] s[i] :: List.drop (i + 1) l) = (_ ++ [g l[i] s[i]]) ++ _
 rw [List.append_assoc]; rfl
theorem wz_ok {α : Type} {g : Ev → α → Ev} {l : List Ev} {s : List α} (hl : ∀ e ∈ l, e.ok) (hg : ∀ e ∈ l, ∀ v ∈ s, (g e v).ok) : ∀ e ∈ List.zipWith g l s, e.ok := by
 intro e he
 obtain ⟨i, hi, rfl⟩ := List.getElem_of_mem he
 rw [List.getElem_zipWith]
 simp at hi
 exact hg _ (List.getElem_mem _) _ (List.getElem_mem _)
theorem zip_map {α : Type} (g : Ev → α → Ev) (c : List Ev) (a : Ev → Ev) (f : Ev → α) : List.zipWith g (c.map a) (c.map f) = c.map fun x => g (a x) (f x) := by
 induction c with
 | nil => rfl
 | cons x r ih => simp [ih]
theorem rs_step (s : Nat) (c : List Ev) (x : By) (h : (cols c)[s]? = some x) : rs s c = x ++ rs (s + 1) c := by
 unfold rs
 obtain ⟨hs, rfl⟩ := List.getElem?_eq_some_iff.1 h
 rw [List.drop_eq_getElem_cons hs]; rfl
theorem z0_ok : z0.ok := by
 refine ⟨?_, ?_, ?_, ?_, ?_, ?_, ?_, ?_, ?_, ?_⟩ <;> first | (unfold z0 I64; simp; done) | (unfold z0; simp)
theorem KR.txt {b : By} {n s : Nat} {l : List Ev} {body : By} (h : KR b n s l body) (g : Ev → By → Ev) (f : Ev → By) (hf : ∀ c, (cols c)[s]? = some (txs (c.map f))) (hg : ∀ x : Ev, g (mg s x) (f x) = mg (s + 1) x)
  (hok : ∀ e v, e.ok → v.length ≤ 200 → (g e v).ok) (hs : ∀ c, LOK c → ∀ e ∈ c, (f e).length ≤ 200) {t : Tx} {k : Nat} {e : Int} (hR : RTs body t k e) :
  (e = 0 → t.length = n → KR b n (s + 1) (List.zipWith g l t) (body.drop k) ∧ k ≤ body.length) ∧ (GC2 b n fun _ _ => e = 0 ∧ t.length = n) := by
 obtain ⟨r1, r2, r3, r4⟩ := hR
 have key : GC2 b n fun c _ => e = 0 ∧ t = c.map f ∧ body.drop k = rs (s + 1) c := fun c r hc hn hb => by
  obtain ⟨_, hbody⟩ := h.full c r hc hn hb
  have hb2 : body = txs (c.map f) ++ rs (s + 1) c := by rw [hbody, rs_step s c _ (hf c)]
  have hcl := hc.len
  have := r4 (c.map f) (rs (s + 1) c) (by rw [List.length_map]; omega) (tok_map (hs c hc)) hb2
  refine ⟨this.1, this.2, ?_⟩
  rcases r3 with ⟨_, hk, _⟩ | ⟨h1, _⟩
  ·rw [hk, this.2, hb2, List.drop_left' rfl]
  ·have := this.1; omega
 refine ⟨fun he ht => ?_, fun c r hc hn hb => ?_⟩
 ·have hk : k ≤ body.length := by
   rcases r3 with ⟨_, hk, hp⟩ | ⟨h1, _⟩
   ·rw [hk]
    have := congrArg List.length hp
    rw [List.length_take] at this
    omega
   ·omega
  refine ⟨⟨?_, wz_ok h.ok fun x hx v hv => hok x v (h.ok x hx) (r1 v hv), by rw [List.length_drop]; have := h.sz; omega, fun c r hc hn hb => ?_⟩, hk⟩
  ·rw [List.length_zipWith, h.len, ht]; omega
  ·obtain ⟨h1, _⟩ := h.full c r hc hn hb
   obtain ⟨_, k2, k3⟩ := key c r hc hn hb
   refine ⟨?_, k3⟩
   rw [h1, k2, zip_map]
   exact List.map_congr_left fun x _ => hg x
 ·obtain ⟨k1, k2, _⟩ := key c r hc hn hb
  exact ⟨k1, by rw [k2, List.length_map, hn]⟩
theorem KR.num {b : By} {n s : Nat} {l : List Ev} {body : By} (h : KR b n s l body) (g : Ev → Int → Ev) (f : Ev → Int) (hf : ∀ c, (cols c)[s]? = some (ints (c.map f))) (hg : ∀ x : Ev, g (mg s x) (f x) = mg (s + 1) x)
  (hok : ∀ e v, e.ok → I64 v → (g e v).ok) (hs : ∀ c, LOK c → ∀ e ∈ c, I64 (f e)) {t : Li} {k : Nat} {e : Int} (hR : RIs body t k e) :
  (e = 0 → t.length = n → KR b n (s + 1) (List.zipWith g l t) (body.drop k) ∧ k ≤ body.length) ∧ (GC2 b n fun _ _ => e = 0 ∧ t.length = n) := by
 obtain ⟨r1, r2, r3, r4⟩ := hR
 have key : GC2 b n fun c _ => e = 0 ∧ t = c.map f ∧ body.drop k = rs (s + 1) c := fun c r hc hn hb => by
  obtain ⟨_, hbody⟩ := h.full c r hc hn hb
  have hb2 : body = ints (c.map f) ++ rs (s + 1) c := by rw [hbody, rs_step s c _ (hf c)]
  have hcl := hc.len
  have := r4 (c.map f) (rs (s + 1) c) (all_map (hs c hc)) (by rw [List.length_map]; omega) hb2
  refine ⟨this.1, this.2, ?_⟩
  rcases r3 with ⟨_, hk, _⟩ | ⟨h1, _⟩
  ·rw [hk, this.2, hb2, List.drop_left' rfl]
  ·have := this.1; omega
 refine ⟨fun he ht => ?_, fun c r hc hn hb => ?_⟩
 ·have hk : k ≤ body.length := by
   rcases r3 with ⟨_, hk, hp⟩ | ⟨h1, _⟩
   ·rw [hk]
    have := congrArg List.length hp
    rw [List.length_take] at this
    omega
   ·omega
  refine ⟨⟨?_, wz_ok h.ok fun x hx v hv => hok x v (h.ok x hx) (r1 v hv), by rw [List.length_drop]; have := h.sz; omega, fun c r hc hn hb => ?_⟩, hk⟩
  ·rw [List.length_zipWith, h.len, ht]; omega
  ·obtain ⟨h1, _⟩ := h.full c r hc hn hb
   obtain ⟨_, k2, k3⟩ := key c r hc hn hb
   refine ⟨?_, k3⟩
   rw [h1, k2, zip_map]
   exact List.map_congr_left fun x _ => hg x
 ·obtain ⟨k1, k2, _⟩ := key c r hc hn hb
  exact ⟨k1, by rw [k2, List.length_map, hn]⟩
end
attribute [local irreducible] loadVar storeVar Instr.indexAt Instr.index Instr.sliceAt Instr.makeSlice Instr.lookup Instr.mapUpdate Instr.range Instr.next Instr.entry Instr.makeMap Builtin.append_ Builtin.copy_ Builtin.len_ Builtin.min_ Builtin.max_ Builtin.cap_ Builtin.delete_ Builtin.clear_ convert binOp eqGuard Op.unary Calls
section
attribute [local irreducible] best ints en bd txs dsT
theorem heads (b : By) (n : Nat) (M : Int) (hM0 : 0 ≤ M) (hM : ∀ c r, LOK c → b = chb c ++ r → ((bdy c).length : Int) ≤ M) (x1 x2 x3 e1 e2 e3 : Int) (k1 k2 k3 : Nat) (h1 : rnT b 0 = (x1, k1, e1)) (h2 : rnT (b.drop k1) e1 = (x2, k2, e2)) (h3 : cnT ((b.drop k1).drop k2) e2 M 5 = (x3, k3, e3)) :
  I64 x1 ∧ I64 x2 ∧ 0 ≤ x3 ∧ x3 ≤ M ∧ (e3 = 0 → ∃ rest, b = num x1 ++ (num x2 ++ (num x3 ++ rest))) ∧ GC2 b n fun c r => e3 = 0 ∧ x1 = (lims c).1 ∧ x2 = (lims c).2 ∧ x3 = ((bdy c).length : Int) := by
 have o1 := rnT_ok b 0
 have o2 := rnT_ok (b.drop k1) e1
 have o3 := rnT_ok ((b.drop k1).drop k2) e2
 have o4 := cnT_rng ((b.drop k1).drop k2) e2 M 5 hM0 (by decide)
 rw [h1] at o1
 rw [h2] at o2
 rw [h3] at o4
 simp only at o1 o2 o4
 refine ⟨o1.1, o2.1, o4.1, o4.2.1, fun he => ?_, fun c r hc hn hb => ?_⟩
 ·obtain ⟨q1, q2⟩ := o4.2.2.2 he
  obtain ⟨p1, p2, p3⟩ := o3.2.2.1 q1
  obtain ⟨u1, u2, u3⟩ := o2.2.2.1 p1
  obtain ⟨v1, v2, v3⟩ := o1.2.2.1 u1
  refine ⟨((b.drop k1).drop k2).drop (rnT ((b.drop k1).drop k2) e2).2.1, ?_⟩
  rw [q2, ← p2, ← u2]
  exact v2
 ·have hr := lims_rng hc
  have hbl := bdA_len hc 4
  change (bdy c).length ≤ 70000 at hbl
  have hb1 : b = num (lims c).1 ++ (num (lims c).2 ++ (num ((bdy c).length : Int) ++ (bdy c ++ r))) := by rw [hb]; unfold chb; simp only [List.append_assoc]
  have a1 := rd1 (b := b) (e := 0) hr.1 rfl hb1
  rw [h1] at a1
  simp only at a1
  obtain ⟨a1, a2, a3⟩ := a1
  have b1 := rd1 (b := b.drop k1) (e := e1) hr.2 a2 a3
  rw [h2] at b1
  simp only at b1
  obtain ⟨b1, b2, b3⟩ := b1
  have c1 := rd1 (b := (b.drop k1).drop k2) (e := e2) (i64_nat (by omega : (bdy c).length ≤ 9223372036854775807)) b2 b3
  have hle := hM c r hc hb
  have c2 := cnT_of (em := 5) c1.1 c1.2.1 hle
  rw [h3] at c2
  injection c2 with c2 c3
  injection c3 with c3 c4
  exact ⟨c4, a1, b1, c2⟩
structure TR where
 l : List Ev
 body : By
 i : Nat
def stg (i : Nat) : Nat := match i with | 0 => 0 | 1 => 4 | 2 => 5 | 3 => 6 | _ => 10
def RCa (b : By) (n : Nat) (a : AV) (m : Nat) (H : AHeap) : Prop := ∃ l k ok, RCs b n l k ok ∧ a = .tup [el l, iv (k : Nat), bv ok] ∧ m = 0 ∧ H = []
theorem rep_z0 (n : Nat) : List.replicate n (enE z0) = (List.replicate n z0).map enE := by simp
theorem readChunkA (b : By) (n : Nat) (hb : b.length ≤ 100000) (hn : n ≤ 16) : AFn Tryz.prog GS 110 [bs b, iv n] 0 [] (RCa b n) := by
 have hN1 := AFn.up (numberA b 0 (by omega)) GS
 obtain ⟨⟨x1, k1, e1⟩, h1⟩ : ∃ t, rnT b 0 = t := ⟨_, rfl⟩
 rw [h1] at hN1
 have hN2 := AFn.up (numberA (b.drop k1) e1 (drop_le (by omega))) GS
 obtain ⟨⟨x2, k2, e2⟩, h2⟩ : ∃ t, rnT (b.drop k1) e1 = t := ⟨_, rfl⟩
 rw [h2] at hN2
 have hC := AFn.up (countA ((b.drop k1).drop k2) e2 (b.length : Int) (drop_le (drop_le (by omega))) (by omega)) GS
 obtain ⟨⟨x3, k3, e3⟩, h3⟩ : ∃ t, cnT ((b.drop k1).drop k2) e2 (b.length : Int) 5 = t := ⟨_, rfl⟩
 rw [h3] at hC
 simp only at hN1 hN2 hC
 obtain ⟨i1, i2, p3, q3, hsound, hfull⟩ := heads b n (b.length : Int) (by omega) (fun c r _ h => by rw [h]; unfold chb; simp only [List.length_append]; omega) x1 x2 x3 e1 e2 e3 k1 k2 k3 h1 h2 h3
 clear h1 h2 h3
 obtain ⟨sz, rfl⟩ : ∃ sz : Nat, x3 = (sz : Int) := ⟨x3.toNat, by omega⟩
 generalize b.drop k1 = b1 at *
 generalize b1.drop k2 = b2 at *
 generalize b2.drop k3 = b3 at *
 refine afn_of Tryz.func110 rfl mixed (by kernel_rfl) ?_
 conv=>whnf
 (refine acallF [] (by kernel_rfl) (AFn.up (newA b (by omega)) GS) ?_ ?_; (focus trivial))
 rintro _ _ _ ⟨rfl, rfl, rfl⟩
 conv=>whnf
 refine acallM [0] [] (by kernel_rfl) hN1 rfl (by trivial) (by trivial) ?_
 rintro _ _ _ ⟨rfl, rfl, rfl⟩
 refine ⟨rfl, ?_⟩
 conv=>whnf
 refine acallM [0] [] (by kernel_rfl) hN2 rfl (by trivial) (by trivial) ?_
 rintro _ _ _ ⟨rfl, rfl, rfl⟩
 refine ⟨rfl, ?_⟩
 conv=>whnf
 rw [List.length_map]
 refine acallM [0] [] (by kernel_rfl) hC rfl (by trivial) (by trivial) ?_
 rintro _ _ _ ⟨rfl, rfl, rfl⟩
 refine ⟨rfl, ?_⟩
 conv=>whnf
 refine acallM [0] [] (by kernel_rfl) (AFn.up (errA b3 e3) GS) rfl (by trivial) (by trivial) ?_
 rintro _ _ _ ⟨rfl, rfl, rfl⟩
 refine ⟨rfl, ?_⟩
 conv=>whnf
 apply vif_split <;> intro h
 ·have he : e3 ≠ 0 := by simpa using h
  conv=>whnf
  exact aend (.tup [el [], iv (0 : Nat), bv false]) 0 [] [] [] ⟨[], 0, false, RCs.no fun c r h1 h2 h3 => he (hfull c r h1 h2 h3).1, rfl, rfl, rfl⟩ rfl trivial (by trivial)
 have he : e3 = 0 := by simpa using h
 subst he
 obtain ⟨rest, hrest⟩ := hsound rfl
 have n1 := (num_len x1).2
 have n2 := (num_len x2).2
 have n3 := (num_len (sz : Int)).2
 conv=>whnf
 (refine acallF [] (by kernel_rfl) (AFn.up (putA [] x1 i1 (by simp)) GS) ?_ ?_; (focus trivial))
 rintro _ _ _ ⟨rfl, rfl, rfl⟩
 conv=>whnf
 (refine acallF [1] (by kernel_rfl) (AFn.up (putA (num x1) x2 i2 (by omega)) GS) ?_ ?_; (focus trivial))
 rintro _ _ _ ⟨rfl, rfl, rfl⟩
 conv=>whnf
 (refine acallF [2] (by kernel_rfl) (AFn.up (putA (num x1 ++ num x2) (sz : Int) (i64_nat (by omega)) (by rw [List.length_append]; omega)) GS) ?_ ?_; (focus trivial))
 rintro _ _ _ ⟨rfl, rfl, rfl⟩
 conv=>whnf
 obtain ⟨hd, hhd⟩ : ∃ hd, num x1 ++ num x2 ++ num (sz : Int) = hd := ⟨_, rfl⟩
 rw [hhd]
 have hb0 : b = hd ++ rest := by rw [← hhd, hrest]; simp only [List.append_assoc]
 have hbl := congrArg List.length hb0
 rw [List.length_append] at hbl
 have hfull2 : GC2 b n fun c r => sz = (bdy c).length ∧ chb c = hd ++ bdy c ∧ rest = bdy c ++ r := fun c r h1 h2 h3 => by
  obtain ⟨_, f1, f2, f3⟩ := hfull c r h1 h2 h3
  have f4 : sz = (bdy c).length := by omega
  have f5 : chb c = hd ++ bdy c := by rw [← hhd, f1, f2, f4]; rfl
  refine ⟨f4, f5, ?_⟩
  rw [hb0, f5, List.append_assoc] at h3
  exact List.append_cancel_left h3
 clear hfull hsound hrest hhd
 refine AAr.i64 (by simp only [List.length_map]; omega) ?_
 conv=>whnf
 apply vif_split <;> intro h
 ·have hgt : rest.length < sz := by simp only [List.length_map, gt_iff_lt, decide_eq_true_eq] at h; omega
  conv=>whnf
  exact aend (.tup [el [], iv (0 : Nat), bv false]) 0 [] [] [] ⟨[], 0, false, RCs.no fun c r h1 h2 h3 => by
   obtain ⟨f1, _, f3⟩ := hfull2 c r h1 h2 h3
   have := congrArg List.length f3
   rw [List.length_append] at this
   omega, rfl, rfl, rfl⟩ rfl trivial (by trivial)
 have hle : sz ≤ rest.length := by simp only [List.length_map, gt_iff_lt, decide_eq_false_iff_not] at h; omega
 conv=>whnf
 refine AMk.mk' (by_ := 112) n rfl rfl (by unfold maxLen; omega) ?_
 conv=>whnf
 refine AAr.i64 (by simp only [List.length_map]; omega) ?_
 conv=>whnf
 refine ABd.mk' hd.length (hd.length + sz) (by rw [List.length_map]) (by rw [List.length_map]; omega) (by omega) (by rw [List.length_map]; omega) ?_
 conv=>whnf
 have hcut : ((b.map enB).take (hd.length + sz)).drop hd.length = (rest.take sz).map enB := by
  rw [← List.map_take, ← List.map_drop, hb0, List.drop_take, List.drop_left' rfl, Nat.add_sub_cancel_left]
 have hK0 : KR b n 0 (List.replicate n z0) (rest.take sz) := by
  refine ⟨by simp, fun e he => ?_, ?_, fun c r h1 h2 h3 => ?_⟩
  ·rw [List.eq_of_mem_replicate he]; exact z0_ok
  ·rw [List.length_take]; omega
  ·obtain ⟨f1, _, f3⟩ := hfull2 c r h1 h2 h3
   refine ⟨?_, ?_⟩
   ·rw [show mg 0 = fun _ => z0 from rfl, List.map_const', h2]
   ·rw [f3, f1, List.take_left' rfl, bdy_rs]
 (refine acallF [] (by kernel_rfl) (columnsA) ?_ ?_; (focus trivial))
 rintro _ _ _ ⟨rfl, rfl, rfl⟩
 conv=>whnf
 refine aloop ws110_1 6 [13, 62] (fun x : TR => [(13, bs x.body), (62, iv x.i)]) (fun x => [(5, .rows 160 2 colsL), (4, .rows 95 10 (x.l.map enE))]) (fun x => x.i ≤ 4 ∧ KR b n (stg x.i) x.l x.body) (fun x => 4 - x.i) [] [] ⟨List.replicate n z0, rest.take sz, 0⟩ (by kernel_rfl) (fun _ => rfl) rfl ⟨Nat.zero_le _, hK0⟩ ⟨⟨rfl, rfl, rfl⟩, ⟨rfl, rfl, rep_z0 n⟩, trivial⟩ ⟨⟨rfl, hcut⟩, rfl, trivial⟩ ?_
 rintro ⟨l, body, i⟩ ⟨hi, hK⟩
 change i ≤ 4 at hi
 change KR b n (stg i) l body at hK
 have hbody := hK.sz
 have hll := hK.len
 have hcs : i = 0 ∨ i = 1 ∨ i = 2 ∨ i = 3 ∨ i = 4 := by omega
 rcases hcs with rfl | rfl | rfl | rfl | rfl
 ·conv=>whnf
  refine AIn.mk' 0 rfl (by decide) ?_
  conv=>whnf
  refine ARd.at rfl ?_
  conv=>whnf
  (refine acallF [] (by kernel_rfl) (AFn.up (readTextsA body hbody) GS) ?_ ?_; (focus trivial))
  rintro _ _ _ ⟨t, q, e, hR, rfl, rfl, rfl⟩
  have hstep := hK.txt (fun e v => { e with client := v }) (·.client) (fun _ => rfl) (fun _ => rfl) (fun e v he hv => ⟨he.seq, he.kind, he.time, he.ver, he.arm, he.val, by first | exact he.client | (show v.length ≤ _; omega), by first | exact he.id | (show v.length ≤ _; omega), by first | exact he.name | (show v.length ≤ _; omega), by first | exact he.other | (show v.length ≤ _; omega)⟩) (fun c hc => hc.s1) hR
  conv=>whnf
  apply vif_split <;> intro h
  ·have he : e ≠ 0 := by simpa using h
   conv=>whnf
   exact aend (.tup [el [], iv (0 : Nat), bv false]) 0 [] [] [] ⟨[], 0, false, RCs.no fun c r h1 h2 h3 => he (hstep.2 c r h1 h2 h3).1, rfl, rfl, rfl⟩ rfl trivial (by trivial)
  have he : e = 0 := by simpa using h
  conv=>whnf
  apply vif_split <;> intro h
  ·have ht : t.length ≠ n := by simp at h; omega
   conv=>whnf
   exact aend (.tup [el [], iv (0 : Nat), bv false]) 0 [] [] [] ⟨[], 0, false, RCs.no fun c r h1 h2 h3 => ht (hstep.2 c r h1 h2 h3).2, rfl, rfl, rfl⟩ rfl trivial (by trivial)
  have ht : t.length = n := by simp at h; omega
  obtain ⟨hK1, hq⟩ := hstep.1 he ht
  have htl : t.length = l.length := by omega
  clear hstep hR
  conv=>whnf
  refine ABd.mk' q body.length rfl (by rw [List.length_map]) hq (by rw [List.length_map]; exact Nat.le_refl _) ?_
  conv=>whnf
  refine aloop ws110_2 7 [85] (fun k : Nat => [(85, iv k)]) (fun k => [(6, .var 160 ((colsL.getD 0 []).map FV.up)), (5, .rows 160 2 colsL), (4, .rows 95 10 ((wz (fun e v => { e with client := v }) l t k).map enE))]) (fun k => k ≤ l.length) (fun k => l.length - k) [] [] 0 (by kernel_rfl) (fun _ => rfl) rfl (Nat.zero_le _) ⟨(by trivial), ⟨rfl, rfl, rfl⟩, ⟨rfl, rfl, by rw [wz_zero]⟩, trivial⟩ ⟨rfl, trivial⟩ ?_
  intro k hk
  conv=>whnf
  refine vif_split (fun hb => ?_) (fun hb => ?_)
  ·have hlt : k < l.length := by simp at hb; omega
   have hlt2 : k < t.length := by omega
   conv=>whnf
   (refine adraw pln110 [] (by kernel_rfl) ?_; conv=>whnf)
   refine AIn.mk' k rfl (by rw [List.length_map, wz_len _ _ _ _ htl]; exact hlt) ?_
   conv=>whnf
   refine AIn.mk' k rfl (lmZ hlt2) ?_
   conv=>whnf
   refine ARd.mapAt (List.getElem?_eq_getElem hlt2) ?_
   conv=>whnf
   (refine acallI (by kernel_rfl) (afn_of Tryz.func143 rfl mixed (by kernel_rfl) ?_); (conv=>whnf))
   refine aendE (.ep 4 k 0) ?_ rfl ?_ ?_
   rotate_left 1
   ·trivial
   ·trivial
   conv=>whnf
   refine ARd.mapAt (wz_at _ l t k hlt htl) ?_
   conv=>whnf
   refine AAr.i64 (by omega) ?_
   conv=>whnf
   refine aback (k + 1) [] [] rfl (by show l.length - (k + 1) < l.length - k; omega) hlt ⟨(by trivial), ⟨rfl, rfl, rfl⟩, ⟨rfl, rfl, ?_⟩, trivial⟩ ⟨rfl, trivial⟩
   rw [← wz_set _ l t k hlt htl, List.map_set]
   rfl
  have hke : k = l.length := by simp only [List.length_map, decide_eq_false_iff_not] at hb; omega
  subst hke
  rw [wz_all _ l t htl]
  conv=>whnf
  refine aloop ws110_3 7 [13, 103] (fun x : TR => [(13, bs x.body), (103, iv x.i)]) (fun x => [(6, .var 160 ((colsL.getD 0 []).map FV.up)), (5, .rows 160 2 colsL), (4, .rows 95 10 (x.l.map enE))]) (fun x => x.i ≤ 3 ∧ KR b n (1 + x.i) x.l x.body) (fun x => 3 - x.i) [] [] ⟨_, body.drop q, 0⟩ (by kernel_rfl) (fun _ => rfl) rfl ⟨Nat.zero_le _, hK1⟩ ⟨(by trivial), ⟨rfl, rfl, rfl⟩, ⟨rfl, rfl, rfl⟩, trivial⟩ ⟨⟨rfl, List.map_drop.symm⟩, rfl, trivial⟩ ?_
  clear hK1 hq htl ht he hK hbody hll
  rintro ⟨l, body, j⟩ ⟨hj, hK⟩
  change j ≤ 3 at hj
  change KR b n (1 + j) l body at hK
  have hbody := hK.sz
  have hll := hK.len
  have hcj : j = 0 ∨ j = 1 ∨ j = 2 ∨ j = 3 := by omega
  rcases hcj with rfl | rfl | rfl | rfl
  ·conv=>whnf
   refine AIn.mk' 0 rfl (by decide) ?_
   conv=>whnf
   refine ARd.at rfl ?_
   conv=>whnf
   (refine acallF [] (by kernel_rfl) (AFn.up (readIntsA body hbody) GS) ?_ ?_; (focus trivial))
   rintro _ _ _ ⟨t, q, e, hR, rfl, rfl, rfl⟩
   have hstep := hK.num (fun e v => { e with seq := v }) (·.seq) (fun _ => rfl) (fun _ => rfl) (fun e v he hv => ⟨by first | exact he.seq | exact hv, by first | exact he.kind | exact hv, by first | exact he.time | exact hv, by first | exact he.ver | exact hv, by first | exact he.arm | exact hv, by first | exact he.val | exact hv, he.client, he.id, he.name, he.other⟩) (fun c hc e he => (hc.ok e he).seq) hR
   conv=>whnf
   apply vif_split <;> intro h
   ·have he : e ≠ 0 := by simpa using h
    conv=>whnf
    exact aend (.tup [el [], iv (0 : Nat), bv false]) 0 [] [] [] ⟨[], 0, false, RCs.no fun c r h1 h2 h3 => he (hstep.2 c r h1 h2 h3).1, rfl, rfl, rfl⟩ rfl trivial (by trivial)
   have he : e = 0 := by simpa using h
   conv=>whnf
   apply vif_split <;> intro h
   ·have ht : t.length ≠ n := by simp at h; omega
    conv=>whnf
    exact aend (.tup [el [], iv (0 : Nat), bv false]) 0 [] [] [] ⟨[], 0, false, RCs.no fun c r h1 h2 h3 => ht (hstep.2 c r h1 h2 h3).2, rfl, rfl, rfl⟩ rfl trivial (by trivial)
   have ht : t.length = n := by simp at h; omega
   obtain ⟨hK1, hq⟩ := hstep.1 he ht
   have htl : t.length = l.length := by omega
   clear hstep hR
   conv=>whnf
   refine ABd.mk' q body.length rfl (by rw [List.length_map]) hq (by rw [List.length_map]; exact Nat.le_refl _) ?_
   conv=>whnf
   refine aloop ws110_4 7 [126] (fun k : Nat => [(126, iv k)]) (fun k => [(6, .var 160 ((colsL.getD 0 []).map FV.up)), (5, .rows 160 2 colsL), (4, .rows 95 10 ((wz (fun e v => { e with seq := v }) l t k).map enE))]) (fun k => k ≤ l.length) (fun k => l.length - k) [] [] 0 (by kernel_rfl) (fun _ => rfl) rfl (Nat.zero_le _) ⟨(by trivial), ⟨rfl, rfl, rfl⟩, ⟨rfl, rfl, by rw [wz_zero]⟩, trivial⟩ ⟨rfl, trivial⟩ ?_
   intro k hk
   conv=>whnf
   refine vif_split (fun hb => ?_) (fun hb => ?_)
   ·have hlt : k < l.length := by simp at hb; omega
    have hlt2 : k < t.length := by omega
    conv=>whnf
    (refine adraw pln110 [] (by kernel_rfl) ?_; conv=>whnf)
    refine AIn.mk' k rfl (by rw [List.length_map, wz_len _ _ _ _ htl]; exact hlt) ?_
    conv=>whnf
    refine AIn.mk' k rfl (lmZ hlt2) ?_
    conv=>whnf
    refine ARd.mapAt (List.getElem?_eq_getElem hlt2) ?_
    conv=>whnf
    (refine acallI (by kernel_rfl) (afn_of Tryz.func144 rfl mixed (by kernel_rfl) ?_); (conv=>whnf))
    refine aendE (.ep 4 k 1) ?_ rfl ?_ ?_
    rotate_left 1
    ·trivial
    ·trivial
    conv=>whnf
    refine ARd.mapAt (wz_at _ l t k hlt htl) ?_
    conv=>whnf
    refine AAr.i64 (by omega) ?_
    conv=>whnf
    refine aback (k + 1) [] [] rfl (by show l.length - (k + 1) < l.length - k; omega) hlt ⟨(by trivial), ⟨rfl, rfl, rfl⟩, ⟨rfl, rfl, ?_⟩, trivial⟩ ⟨rfl, trivial⟩
    rw [← wz_set _ l t k hlt htl, List.map_set]
    rfl
   have hke : k = l.length := by simp only [List.length_map, decide_eq_false_iff_not] at hb; omega
   subst hke
   rw [wz_all _ l t htl]
   conv=>whnf
   refine AAr.i64 (by dsimp only; omega) ?_
   conv=>whnf
   exact aback ⟨_, body.drop q, 0 + 1⟩ [] [] rfl (by show 3 - (0 + 1) < 3 - 0; decide) ⟨(by show 0 + 1 ≤ 3; decide), hK1⟩ ⟨(by trivial), ⟨rfl, rfl, rfl⟩, ⟨rfl, rfl, rfl⟩, trivial⟩ ⟨⟨rfl, List.map_drop.symm⟩, rfl, trivial⟩
  ·conv=>whnf
   refine AIn.mk' 1 rfl (by decide) ?_
   conv=>whnf
   refine ARd.at rfl ?_
   conv=>whnf
   (refine acallF [] (by kernel_rfl) (AFn.up (readIntsA body hbody) GS) ?_ ?_; (focus trivial))
   rintro _ _ _ ⟨t, q, e, hR, rfl, rfl, rfl⟩
   have hstep := hK.num (fun e v => { e with kind := v }) (·.kind) (fun _ => rfl) (fun _ => rfl) (fun e v he hv => ⟨by first | exact he.seq | exact hv, by first | exact he.kind | exact hv, by first | exact he.time | exact hv, by first | exact he.ver | exact hv, by first | exact he.arm | exact hv, by first | exact he.val | exact hv, he.client, he.id, he.name, he.other⟩) (fun c hc e he => (hc.ok e he).kind) hR
   conv=>whnf
   apply vif_split <;> intro h
   ·have he : e ≠ 0 := by simpa using h
    conv=>whnf
    exact aend (.tup [el [], iv (0 : Nat), bv false]) 0 [] [] [] ⟨[], 0, false, RCs.no fun c r h1 h2 h3 => he (hstep.2 c r h1 h2 h3).1, rfl, rfl, rfl⟩ rfl trivial (by trivial)
   have he : e = 0 := by simpa using h
   conv=>whnf
   apply vif_split <;> intro h
   ·have ht : t.length ≠ n := by simp at h; omega
    conv=>whnf
    exact aend (.tup [el [], iv (0 : Nat), bv false]) 0 [] [] [] ⟨[], 0, false, RCs.no fun c r h1 h2 h3 => ht (hstep.2 c r h1 h2 h3).2, rfl, rfl, rfl⟩ rfl trivial (by trivial)
   have ht : t.length = n := by simp at h; omega
   obtain ⟨hK1, hq⟩ := hstep.1 he ht
   have htl : t.length = l.length := by omega
   clear hstep hR
   conv=>whnf
   refine ABd.mk' q body.length rfl (by rw [List.length_map]) hq (by rw [List.length_map]; exact Nat.le_refl _) ?_
   conv=>whnf
   refine aloop ws110_4 7 [126] (fun k : Nat => [(126, iv k)]) (fun k => [(6, .var 160 ((colsL.getD 0 []).map FV.up)), (5, .rows 160 2 colsL), (4, .rows 95 10 ((wz (fun e v => { e with kind := v }) l t k).map enE))]) (fun k => k ≤ l.length) (fun k => l.length - k) [] [] 0 (by kernel_rfl) (fun _ => rfl) rfl (Nat.zero_le _) ⟨(by trivial), ⟨rfl, rfl, rfl⟩, ⟨rfl, rfl, by rw [wz_zero]⟩, trivial⟩ ⟨rfl, trivial⟩ ?_
   intro k hk
   conv=>whnf
   refine vif_split (fun hb => ?_) (fun hb => ?_)
   ·have hlt : k < l.length := by simp at hb; omega
    have hlt2 : k < t.length := by omega
    conv=>whnf
    (refine adraw pln110 [] (by kernel_rfl) ?_; conv=>whnf)
    refine AIn.mk' k rfl (by rw [List.length_map, wz_len _ _ _ _ htl]; exact hlt) ?_
    conv=>whnf
    refine AIn.mk' k rfl (lmZ hlt2) ?_
    conv=>whnf
    refine ARd.mapAt (List.getElem?_eq_getElem hlt2) ?_
    conv=>whnf
    (refine acallI (by kernel_rfl) (afn_of Tryz.func145 rfl mixed (by kernel_rfl) ?_); (conv=>whnf))
    refine aendE (.ep 4 k 2) ?_ rfl ?_ ?_
    rotate_left 1
    ·trivial
    ·trivial
    conv=>whnf
    refine ARd.mapAt (wz_at _ l t k hlt htl) ?_
    conv=>whnf
    refine AAr.i64 (by omega) ?_
    conv=>whnf
    refine aback (k + 1) [] [] rfl (by show l.length - (k + 1) < l.length - k; omega) hlt ⟨(by trivial), ⟨rfl, rfl, rfl⟩, ⟨rfl, rfl, ?_⟩, trivial⟩ ⟨rfl, trivial⟩
    rw [← wz_set _ l t k hlt htl, List.map_set]
    rfl
   have hke : k = l.length := by simp only [List.length_map, decide_eq_false_iff_not] at hb; omega
   subst hke
   rw [wz_all _ l t htl]
   conv=>whnf
   refine AAr.i64 (by dsimp only; omega) ?_
   conv=>whnf
   exact aback ⟨_, body.drop q, 1 + 1⟩ [] [] rfl (by show 3 - (1 + 1) < 3 - 1; decide) ⟨(by show 1 + 1 ≤ 3; decide), hK1⟩ ⟨(by trivial), ⟨rfl, rfl, rfl⟩, ⟨rfl, rfl, rfl⟩, trivial⟩ ⟨⟨rfl, List.map_drop.symm⟩, rfl, trivial⟩
  ·conv=>whnf
   refine AIn.mk' 2 rfl (by decide) ?_
   conv=>whnf
   refine ARd.at rfl ?_
   conv=>whnf
   (refine acallF [] (by kernel_rfl) (AFn.up (readIntsA body hbody) GS) ?_ ?_; (focus trivial))
   rintro _ _ _ ⟨t, q, e, hR, rfl, rfl, rfl⟩
   have hstep := hK.num (fun e v => { e with time := v }) (·.time) (fun _ => rfl) (fun _ => rfl) (fun e v he hv => ⟨by first | exact he.seq | exact hv, by first | exact he.kind | exact hv, by first | exact he.time | exact hv, by first | exact he.ver | exact hv, by first | exact he.arm | exact hv, by first | exact he.val | exact hv, he.client, he.id, he.name, he.other⟩) (fun c hc e he => (hc.ok e he).time) hR
   conv=>whnf
   apply vif_split <;> intro h
   ·have he : e ≠ 0 := by simpa using h
    conv=>whnf
    exact aend (.tup [el [], iv (0 : Nat), bv false]) 0 [] [] [] ⟨[], 0, false, RCs.no fun c r h1 h2 h3 => he (hstep.2 c r h1 h2 h3).1, rfl, rfl, rfl⟩ rfl trivial (by trivial)
   have he : e = 0 := by simpa using h
   conv=>whnf
   apply vif_split <;> intro h
   ·have ht : t.length ≠ n := by simp at h; omega
    conv=>whnf
    exact aend (.tup [el [], iv (0 : Nat), bv false]) 0 [] [] [] ⟨[], 0, false, RCs.no fun c r h1 h2 h3 => ht (hstep.2 c r h1 h2 h3).2, rfl, rfl, rfl⟩ rfl trivial (by trivial)
   have ht : t.length = n := by simp at h; omega
   obtain ⟨hK1, hq⟩ := hstep.1 he ht
   have htl : t.length = l.length := by omega
   clear hstep hR
   conv=>whnf
   refine ABd.mk' q body.length rfl (by rw [List.length_map]) hq (by rw [List.length_map]; exact Nat.le_refl _) ?_
   conv=>whnf
   refine aloop ws110_4 7 [126] (fun k : Nat => [(126, iv k)]) (fun k => [(6, .var 160 ((colsL.getD 0 []).map FV.up)), (5, .rows 160 2 colsL), (4, .rows 95 10 ((wz (fun e v => { e with time := v }) l t k).map enE))]) (fun k => k ≤ l.length) (fun k => l.length - k) [] [] 0 (by kernel_rfl) (fun _ => rfl) rfl (Nat.zero_le _) ⟨(by trivial), ⟨rfl, rfl, rfl⟩, ⟨rfl, rfl, by rw [wz_zero]⟩, trivial⟩ ⟨rfl, trivial⟩ ?_
   intro k hk
   conv=>whnf
   refine vif_split (fun hb => ?_) (fun hb => ?_)
   ·have hlt : k < l.length := by simp at hb; omega
    have hlt2 : k < t.length := by omega
    conv=>whnf
    (refine adraw pln110 [] (by kernel_rfl) ?_; conv=>whnf)
    refine AIn.mk' k rfl (by rw [List.length_map, wz_len _ _ _ _ htl]; exact hlt) ?_
    conv=>whnf
    refine AIn.mk' k rfl (lmZ hlt2) ?_
    conv=>whnf
    refine ARd.mapAt (List.getElem?_eq_getElem hlt2) ?_
    conv=>whnf
    (refine acallI (by kernel_rfl) (afn_of Tryz.func146 rfl mixed (by kernel_rfl) ?_); (conv=>whnf))
    refine aendE (.ep 4 k 3) ?_ rfl ?_ ?_
    rotate_left 1
    ·trivial
    ·trivial
    conv=>whnf
    refine ARd.mapAt (wz_at _ l t k hlt htl) ?_
    conv=>whnf
    refine AAr.i64 (by omega) ?_
    conv=>whnf
    refine aback (k + 1) [] [] rfl (by show l.length - (k + 1) < l.length - k; omega) hlt ⟨(by trivial), ⟨rfl, rfl, rfl⟩, ⟨rfl, rfl, ?_⟩, trivial⟩ ⟨rfl, trivial⟩
    rw [← wz_set _ l t k hlt htl, List.map_set]
    rfl
   have hke : k = l.length := by simp only [List.length_map, decide_eq_false_iff_not] at hb; omega
   subst hke
   rw [wz_all _ l t htl]
   conv=>whnf
   refine AAr.i64 (by dsimp only; omega) ?_
   conv=>whnf
   exact aback ⟨_, body.drop q, 2 + 1⟩ [] [] rfl (by show 3 - (2 + 1) < 3 - 2; decide) ⟨(by show 2 + 1 ≤ 3; decide), hK1⟩ ⟨(by trivial), ⟨rfl, rfl, rfl⟩, ⟨rfl, rfl, rfl⟩, trivial⟩ ⟨⟨rfl, List.map_drop.symm⟩, rfl, trivial⟩
  ·conv=>whnf
   refine AAr.i64 (by dsimp only; omega) ?_
   conv=>whnf
   exact aback ⟨l, body, 1⟩ [] [] rfl (by show 4 - 1 < 4 - 0; decide) ⟨(by show 1 ≤ 4; decide), hK⟩ ⟨⟨rfl, rfl, rfl⟩, ⟨rfl, rfl, rfl⟩, trivial⟩ ⟨⟨rfl, rfl⟩, rfl, trivial⟩
 ·conv=>whnf
  refine AIn.mk' 1 rfl (by decide) ?_
  conv=>whnf
  refine ARd.at rfl ?_
  conv=>whnf
  (refine acallF [] (by kernel_rfl) (AFn.up (readTextsA body hbody) GS) ?_ ?_; (focus trivial))
  rintro _ _ _ ⟨t, q, e, hR, rfl, rfl, rfl⟩
  have hstep := hK.txt (fun e v => { e with id := v }) (·.id) (fun _ => rfl) (fun _ => rfl) (fun e v he hv => ⟨he.seq, he.kind, he.time, he.ver, he.arm, he.val, by first | exact he.client | (show v.length ≤ _; omega), by first | exact he.id | (show v.length ≤ _; omega), by first | exact he.name | (show v.length ≤ _; omega), by first | exact he.other | (show v.length ≤ _; omega)⟩) (fun c hc => hc.s2) hR
  conv=>whnf
  apply vif_split <;> intro h
  ·have he : e ≠ 0 := by simpa using h
   conv=>whnf
   exact aend (.tup [el [], iv (0 : Nat), bv false]) 0 [] [] [] ⟨[], 0, false, RCs.no fun c r h1 h2 h3 => he (hstep.2 c r h1 h2 h3).1, rfl, rfl, rfl⟩ rfl trivial (by trivial)
  have he : e = 0 := by simpa using h
  conv=>whnf
  apply vif_split <;> intro h
  ·have ht : t.length ≠ n := by simp at h; omega
   conv=>whnf
   exact aend (.tup [el [], iv (0 : Nat), bv false]) 0 [] [] [] ⟨[], 0, false, RCs.no fun c r h1 h2 h3 => ht (hstep.2 c r h1 h2 h3).2, rfl, rfl, rfl⟩ rfl trivial (by trivial)
  have ht : t.length = n := by simp at h; omega
  obtain ⟨hK1, hq⟩ := hstep.1 he ht
  have htl : t.length = l.length := by omega
  clear hstep hR
  conv=>whnf
  refine ABd.mk' q body.length rfl (by rw [List.length_map]) hq (by rw [List.length_map]; exact Nat.le_refl _) ?_
  conv=>whnf
  refine aloop ws110_2 7 [85] (fun k : Nat => [(85, iv k)]) (fun k => [(6, .var 160 ((colsL.getD 1 []).map FV.up)), (5, .rows 160 2 colsL), (4, .rows 95 10 ((wz (fun e v => { e with id := v }) l t k).map enE))]) (fun k => k ≤ l.length) (fun k => l.length - k) [] [] 0 (by kernel_rfl) (fun _ => rfl) rfl (Nat.zero_le _) ⟨(by trivial), ⟨rfl, rfl, rfl⟩, ⟨rfl, rfl, by rw [wz_zero]⟩, trivial⟩ ⟨rfl, trivial⟩ ?_
  intro k hk
  conv=>whnf
  refine vif_split (fun hb => ?_) (fun hb => ?_)
  ·have hlt : k < l.length := by simp at hb; omega
   have hlt2 : k < t.length := by omega
   conv=>whnf
   (refine adraw pln110 [] (by kernel_rfl) ?_; conv=>whnf)
   refine AIn.mk' k rfl (by rw [List.length_map, wz_len _ _ _ _ htl]; exact hlt) ?_
   conv=>whnf
   refine AIn.mk' k rfl (lmZ hlt2) ?_
   conv=>whnf
   refine ARd.mapAt (List.getElem?_eq_getElem hlt2) ?_
   conv=>whnf
   (refine acallI (by kernel_rfl) (afn_of Tryz.func147 rfl mixed (by kernel_rfl) ?_); (conv=>whnf))
   refine aendE (.ep 4 k 4) ?_ rfl ?_ ?_
   rotate_left 1
   ·trivial
   ·trivial
   conv=>whnf
   refine ARd.mapAt (wz_at _ l t k hlt htl) ?_
   conv=>whnf
   refine AAr.i64 (by omega) ?_
   conv=>whnf
   refine aback (k + 1) [] [] rfl (by show l.length - (k + 1) < l.length - k; omega) hlt ⟨(by trivial), ⟨rfl, rfl, rfl⟩, ⟨rfl, rfl, ?_⟩, trivial⟩ ⟨rfl, trivial⟩
   rw [← wz_set _ l t k hlt htl, List.map_set]
   rfl
  have hke : k = l.length := by simp only [List.length_map, decide_eq_false_iff_not] at hb; omega
  subst hke
  rw [wz_all _ l t htl]
  conv=>whnf
  refine aloop ws110_3 7 [13, 103] (fun j : Nat => [(13, bs (body.drop q)), (103, iv 0)]) (fun j => [(5, .rows 160 2 colsL), (4, .rows 95 10 ((List.zipWith (fun e v => { e with id := v }) l t).map enE))]) (fun j => j = 0) (fun j => j) [] [] 0 (by kernel_rfl) (fun _ => rfl) rfl rfl ⟨⟨rfl, rfl, rfl⟩, ⟨rfl, rfl, rfl⟩, trivial⟩ ⟨⟨rfl, List.map_drop.symm⟩, rfl, trivial⟩ ?_
  intro j hj
  conv=>whnf
  refine AAr.i64 (by dsimp only; omega) ?_
  conv=>whnf
  exact aback ⟨List.zipWith (fun e v => { e with id := v }) l t, body.drop q, 1 + 1⟩ [] [] rfl (by show 4 - (1 + 1) < 4 - 1; decide) ⟨(by show 1 + 1 ≤ 4; decide), hK1⟩ ⟨⟨rfl, rfl, rfl⟩, ⟨rfl, rfl, rfl⟩, trivial⟩ ⟨⟨rfl, rfl⟩, rfl, trivial⟩
 ·conv=>whnf
  refine AIn.mk' 2 rfl (by decide) ?_
  conv=>whnf
  refine ARd.at rfl ?_
  conv=>whnf
  (refine acallF [] (by kernel_rfl) (AFn.up (readTextsA body hbody) GS) ?_ ?_; (focus trivial))
  rintro _ _ _ ⟨t, q, e, hR, rfl, rfl, rfl⟩
  have hstep := hK.txt (fun e v => { e with name := v }) (·.name) (fun _ => rfl) (fun _ => rfl) (fun e v he hv => ⟨he.seq, he.kind, he.time, he.ver, he.arm, he.val, by first | exact he.client | (show v.length ≤ _; omega), by first | exact he.id | (show v.length ≤ _; omega), by first | exact he.name | (show v.length ≤ _; omega), by first | exact he.other | (show v.length ≤ _; omega)⟩) (fun c hc => hc.s3) hR
  conv=>whnf
  apply vif_split <;> intro h
  ·have he : e ≠ 0 := by simpa using h
   conv=>whnf
   exact aend (.tup [el [], iv (0 : Nat), bv false]) 0 [] [] [] ⟨[], 0, false, RCs.no fun c r h1 h2 h3 => he (hstep.2 c r h1 h2 h3).1, rfl, rfl, rfl⟩ rfl trivial (by trivial)
  have he : e = 0 := by simpa using h
  conv=>whnf
  apply vif_split <;> intro h
  ·have ht : t.length ≠ n := by simp at h; omega
   conv=>whnf
   exact aend (.tup [el [], iv (0 : Nat), bv false]) 0 [] [] [] ⟨[], 0, false, RCs.no fun c r h1 h2 h3 => ht (hstep.2 c r h1 h2 h3).2, rfl, rfl, rfl⟩ rfl trivial (by trivial)
  have ht : t.length = n := by simp at h; omega
  obtain ⟨hK1, hq⟩ := hstep.1 he ht
  have htl : t.length = l.length := by omega
  clear hstep hR
  conv=>whnf
  refine ABd.mk' q body.length rfl (by rw [List.length_map]) hq (by rw [List.length_map]; exact Nat.le_refl _) ?_
  conv=>whnf
  refine aloop ws110_2 7 [85] (fun k : Nat => [(85, iv k)]) (fun k => [(6, .var 160 ((colsL.getD 2 []).map FV.up)), (5, .rows 160 2 colsL), (4, .rows 95 10 ((wz (fun e v => { e with name := v }) l t k).map enE))]) (fun k => k ≤ l.length) (fun k => l.length - k) [] [] 0 (by kernel_rfl) (fun _ => rfl) rfl (Nat.zero_le _) ⟨(by trivial), ⟨rfl, rfl, rfl⟩, ⟨rfl, rfl, by rw [wz_zero]⟩, trivial⟩ ⟨rfl, trivial⟩ ?_
  intro k hk
  conv=>whnf
  refine vif_split (fun hb => ?_) (fun hb => ?_)
  ·have hlt : k < l.length := by simp at hb; omega
   have hlt2 : k < t.length := by omega
   conv=>whnf
   (refine adraw pln110 [] (by kernel_rfl) ?_; conv=>whnf)
   refine AIn.mk' k rfl (by rw [List.length_map, wz_len _ _ _ _ htl]; exact hlt) ?_
   conv=>whnf
   refine AIn.mk' k rfl (lmZ hlt2) ?_
   conv=>whnf
   refine ARd.mapAt (List.getElem?_eq_getElem hlt2) ?_
   conv=>whnf
   (refine acallI (by kernel_rfl) (afn_of Tryz.func148 rfl mixed (by kernel_rfl) ?_); (conv=>whnf))
   refine aendE (.ep 4 k 5) ?_ rfl ?_ ?_
   rotate_left 1
   ·trivial
   ·trivial
   conv=>whnf
   refine ARd.mapAt (wz_at _ l t k hlt htl) ?_
   conv=>whnf
   refine AAr.i64 (by omega) ?_
   conv=>whnf
   refine aback (k + 1) [] [] rfl (by show l.length - (k + 1) < l.length - k; omega) hlt ⟨(by trivial), ⟨rfl, rfl, rfl⟩, ⟨rfl, rfl, ?_⟩, trivial⟩ ⟨rfl, trivial⟩
   rw [← wz_set _ l t k hlt htl, List.map_set]
   rfl
  have hke : k = l.length := by simp only [List.length_map, decide_eq_false_iff_not] at hb; omega
  subst hke
  rw [wz_all _ l t htl]
  conv=>whnf
  refine aloop ws110_3 7 [13, 103] (fun j : Nat => [(13, bs (body.drop q)), (103, iv 0)]) (fun j => [(5, .rows 160 2 colsL), (4, .rows 95 10 ((List.zipWith (fun e v => { e with name := v }) l t).map enE))]) (fun j => j = 0) (fun j => j) [] [] 0 (by kernel_rfl) (fun _ => rfl) rfl rfl ⟨⟨rfl, rfl, rfl⟩, ⟨rfl, rfl, rfl⟩, trivial⟩ ⟨⟨rfl, List.map_drop.symm⟩, rfl, trivial⟩ ?_
  intro j hj
  conv=>whnf
  refine AAr.i64 (by dsimp only; omega) ?_
  conv=>whnf
  exact aback ⟨List.zipWith (fun e v => { e with name := v }) l t, body.drop q, 2 + 1⟩ [] [] rfl (by show 4 - (2 + 1) < 4 - 2; decide) ⟨(by show 2 + 1 ≤ 4; decide), hK1⟩ ⟨⟨rfl, rfl, rfl⟩, ⟨rfl, rfl, rfl⟩, trivial⟩ ⟨⟨rfl, rfl⟩, rfl, trivial⟩
 ·conv=>whnf
  refine AIn.mk' 3 rfl (by decide) ?_
  conv=>whnf
  refine ARd.at rfl ?_
  conv=>whnf
  (refine acallF [] (by kernel_rfl) (AFn.up (readTextsA body hbody) GS) ?_ ?_; (focus trivial))
  rintro _ _ _ ⟨t, q, e, hR, rfl, rfl, rfl⟩
  have hstep := hK.txt (fun e v => { e with other := v }) (·.other) (fun _ => rfl) (fun _ => rfl) (fun e v he hv => ⟨he.seq, he.kind, he.time, he.ver, he.arm, he.val, by first | exact he.client | (show v.length ≤ _; omega), by first | exact he.id | (show v.length ≤ _; omega), by first | exact he.name | (show v.length ≤ _; omega), by first | exact he.other | (show v.length ≤ _; omega)⟩) (fun c hc => hc.s4) hR
  conv=>whnf
  apply vif_split <;> intro h
  ·have he : e ≠ 0 := by simpa using h
   conv=>whnf
   exact aend (.tup [el [], iv (0 : Nat), bv false]) 0 [] [] [] ⟨[], 0, false, RCs.no fun c r h1 h2 h3 => he (hstep.2 c r h1 h2 h3).1, rfl, rfl, rfl⟩ rfl trivial (by trivial)
  have he : e = 0 := by simpa using h
  conv=>whnf
  apply vif_split <;> intro h
  ·have ht : t.length ≠ n := by simp at h; omega
   conv=>whnf
   exact aend (.tup [el [], iv (0 : Nat), bv false]) 0 [] [] [] ⟨[], 0, false, RCs.no fun c r h1 h2 h3 => ht (hstep.2 c r h1 h2 h3).2, rfl, rfl, rfl⟩ rfl trivial (by trivial)
  have ht : t.length = n := by simp at h; omega
  obtain ⟨hK1, hq⟩ := hstep.1 he ht
  have htl : t.length = l.length := by omega
  clear hstep hR
  conv=>whnf
  refine ABd.mk' q body.length rfl (by rw [List.length_map]) hq (by rw [List.length_map]; exact Nat.le_refl _) ?_
  conv=>whnf
  refine aloop ws110_2 7 [85] (fun k : Nat => [(85, iv k)]) (fun k => [(6, .var 160 ((colsL.getD 3 []).map FV.up)), (5, .rows 160 2 colsL), (4, .rows 95 10 ((wz (fun e v => { e with other := v }) l t k).map enE))]) (fun k => k ≤ l.length) (fun k => l.length - k) [] [] 0 (by kernel_rfl) (fun _ => rfl) rfl (Nat.zero_le _) ⟨(by trivial), ⟨rfl, rfl, rfl⟩, ⟨rfl, rfl, by rw [wz_zero]⟩, trivial⟩ ⟨rfl, trivial⟩ ?_
  intro k hk
  conv=>whnf
  refine vif_split (fun hb => ?_) (fun hb => ?_)
  ·have hlt : k < l.length := by simp at hb; omega
   have hlt2 : k < t.length := by omega
   conv=>whnf
   (refine adraw pln110 [] (by kernel_rfl) ?_; conv=>whnf)
   refine AIn.mk' k rfl (by rw [List.length_map, wz_len _ _ _ _ htl]; exact hlt) ?_
   conv=>whnf
   refine AIn.mk' k rfl (lmZ hlt2) ?_
   conv=>whnf
   refine ARd.mapAt (List.getElem?_eq_getElem hlt2) ?_
   conv=>whnf
   (refine acallI (by kernel_rfl) (afn_of Tryz.func149 rfl mixed (by kernel_rfl) ?_); (conv=>whnf))
   refine aendE (.ep 4 k 6) ?_ rfl ?_ ?_
   rotate_left 1
   ·trivial
   ·trivial
   conv=>whnf
   refine ARd.mapAt (wz_at _ l t k hlt htl) ?_
   conv=>whnf
   refine AAr.i64 (by omega) ?_
   conv=>whnf
   refine aback (k + 1) [] [] rfl (by show l.length - (k + 1) < l.length - k; omega) hlt ⟨(by trivial), ⟨rfl, rfl, rfl⟩, ⟨rfl, rfl, ?_⟩, trivial⟩ ⟨rfl, trivial⟩
   rw [← wz_set _ l t k hlt htl, List.map_set]
   rfl
  have hke : k = l.length := by simp only [List.length_map, decide_eq_false_iff_not] at hb; omega
  subst hke
  rw [wz_all _ l t htl]
  conv=>whnf
  refine aloop ws110_3 7 [13, 103] (fun x : TR => [(13, bs x.body), (103, iv x.i)]) (fun x => [(6, .var 160 ((colsL.getD 3 []).map FV.up)), (5, .rows 160 2 colsL), (4, .rows 95 10 (x.l.map enE))]) (fun x => x.i ≤ 3 ∧ KR b n (7 + x.i) x.l x.body) (fun x => 3 - x.i) [] [] ⟨_, body.drop q, 0⟩ (by kernel_rfl) (fun _ => rfl) rfl ⟨Nat.zero_le _, hK1⟩ ⟨(by trivial), ⟨rfl, rfl, rfl⟩, ⟨rfl, rfl, rfl⟩, trivial⟩ ⟨⟨rfl, List.map_drop.symm⟩, rfl, trivial⟩ ?_
  clear hK1 hq htl ht he hK hbody hll
  rintro ⟨l, body, j⟩ ⟨hj, hK⟩
  change j ≤ 3 at hj
  change KR b n (7 + j) l body at hK
  have hbody := hK.sz
  have hll := hK.len
  have hcj : j = 0 ∨ j = 1 ∨ j = 2 ∨ j = 3 := by omega
  rcases hcj with rfl | rfl | rfl | rfl
  ·conv=>whnf
   refine AIn.mk' 0 rfl (by decide) ?_
   conv=>whnf
   refine ARd.at rfl ?_
   conv=>whnf
   (refine acallF [] (by kernel_rfl) (AFn.up (readIntsA body hbody) GS) ?_ ?_; (focus trivial))
   rintro _ _ _ ⟨t, q, e, hR, rfl, rfl, rfl⟩
   have hstep := hK.num (fun e v => { e with ver := v }) (·.ver) (fun _ => rfl) (fun _ => rfl) (fun e v he hv => ⟨by first | exact he.seq | exact hv, by first | exact he.kind | exact hv, by first | exact he.time | exact hv, by first | exact he.ver | exact hv, by first | exact he.arm | exact hv, by first | exact he.val | exact hv, he.client, he.id, he.name, he.other⟩) (fun c hc e he => (hc.ok e he).ver) hR
   conv=>whnf
   apply vif_split <;> intro h
   ·have he : e ≠ 0 := by simpa using h
    conv=>whnf
    exact aend (.tup [el [], iv (0 : Nat), bv false]) 0 [] [] [] ⟨[], 0, false, RCs.no fun c r h1 h2 h3 => he (hstep.2 c r h1 h2 h3).1, rfl, rfl, rfl⟩ rfl trivial (by trivial)
   have he : e = 0 := by simpa using h
   conv=>whnf
   apply vif_split <;> intro h
   ·have ht : t.length ≠ n := by simp at h; omega
    conv=>whnf
    exact aend (.tup [el [], iv (0 : Nat), bv false]) 0 [] [] [] ⟨[], 0, false, RCs.no fun c r h1 h2 h3 => ht (hstep.2 c r h1 h2 h3).2, rfl, rfl, rfl⟩ rfl trivial (by trivial)
   have ht : t.length = n := by simp at h; omega
   obtain ⟨hK1, hq⟩ := hstep.1 he ht
   have htl : t.length = l.length := by omega
   clear hstep hR
   conv=>whnf
   refine ABd.mk' q body.length rfl (by rw [List.length_map]) hq (by rw [List.length_map]; exact Nat.le_refl _) ?_
   conv=>whnf
   refine aloop ws110_4 7 [126] (fun k : Nat => [(126, iv k)]) (fun k => [(6, .var 160 ((colsL.getD 3 []).map FV.up)), (5, .rows 160 2 colsL), (4, .rows 95 10 ((wz (fun e v => { e with ver := v }) l t k).map enE))]) (fun k => k ≤ l.length) (fun k => l.length - k) [] [] 0 (by kernel_rfl) (fun _ => rfl) rfl (Nat.zero_le _) ⟨(by trivial), ⟨rfl, rfl, rfl⟩, ⟨rfl, rfl, by rw [wz_zero]⟩, trivial⟩ ⟨rfl, trivial⟩ ?_
   intro k hk
   conv=>whnf
   refine vif_split (fun hb => ?_) (fun hb => ?_)
   ·have hlt : k < l.length := by simp at hb; omega
    have hlt2 : k < t.length := by omega
    conv=>whnf
    (refine adraw pln110 [] (by kernel_rfl) ?_; conv=>whnf)
    refine AIn.mk' k rfl (by rw [List.length_map, wz_len _ _ _ _ htl]; exact hlt) ?_
    conv=>whnf
    refine AIn.mk' k rfl (lmZ hlt2) ?_
    conv=>whnf
    refine ARd.mapAt (List.getElem?_eq_getElem hlt2) ?_
    conv=>whnf
    (refine acallI (by kernel_rfl) (afn_of Tryz.func150 rfl mixed (by kernel_rfl) ?_); (conv=>whnf))
    refine aendE (.ep 4 k 7) ?_ rfl ?_ ?_
    rotate_left 1
    ·trivial
    ·trivial
    conv=>whnf
    refine ARd.mapAt (wz_at _ l t k hlt htl) ?_
    conv=>whnf
    refine AAr.i64 (by omega) ?_
    conv=>whnf
    refine aback (k + 1) [] [] rfl (by show l.length - (k + 1) < l.length - k; omega) hlt ⟨(by trivial), ⟨rfl, rfl, rfl⟩, ⟨rfl, rfl, ?_⟩, trivial⟩ ⟨rfl, trivial⟩
    rw [← wz_set _ l t k hlt htl, List.map_set]
    rfl
   have hke : k = l.length := by simp only [List.length_map, decide_eq_false_iff_not] at hb; omega
   subst hke
   rw [wz_all _ l t htl]
   conv=>whnf
   refine AAr.i64 (by dsimp only; omega) ?_
   conv=>whnf
   exact aback ⟨_, body.drop q, 0 + 1⟩ [] [] rfl (by show 3 - (0 + 1) < 3 - 0; decide) ⟨(by show 0 + 1 ≤ 3; decide), hK1⟩ ⟨(by trivial), ⟨rfl, rfl, rfl⟩, ⟨rfl, rfl, rfl⟩, trivial⟩ ⟨⟨rfl, List.map_drop.symm⟩, rfl, trivial⟩
  ·conv=>whnf
   refine AIn.mk' 1 rfl (by decide) ?_
   conv=>whnf
   refine ARd.at rfl ?_
   conv=>whnf
   (refine acallF [] (by kernel_rfl) (AFn.up (readIntsA body hbody) GS) ?_ ?_; (focus trivial))
   rintro _ _ _ ⟨t, q, e, hR, rfl, rfl, rfl⟩
   have hstep := hK.num (fun e v => { e with arm := v }) (·.arm) (fun _ => rfl) (fun _ => rfl) (fun e v he hv => ⟨by first | exact he.seq | exact hv, by first | exact he.kind | exact hv, by first | exact he.time | exact hv, by first | exact he.ver | exact hv, by first | exact he.arm | exact hv, by first | exact he.val | exact hv, he.client, he.id, he.name, he.other⟩) (fun c hc e he => (hc.ok e he).arm) hR
   conv=>whnf
   apply vif_split <;> intro h
   ·have he : e ≠ 0 := by simpa using h
    conv=>whnf
    exact aend (.tup [el [], iv (0 : Nat), bv false]) 0 [] [] [] ⟨[], 0, false, RCs.no fun c r h1 h2 h3 => he (hstep.2 c r h1 h2 h3).1, rfl, rfl, rfl⟩ rfl trivial (by trivial)
   have he : e = 0 := by simpa using h
   conv=>whnf
   apply vif_split <;> intro h
   ·have ht : t.length ≠ n := by simp at h; omega
    conv=>whnf
    exact aend (.tup [el [], iv (0 : Nat), bv false]) 0 [] [] [] ⟨[], 0, false, RCs.no fun c r h1 h2 h3 => ht (hstep.2 c r h1 h2 h3).2, rfl, rfl, rfl⟩ rfl trivial (by trivial)
   have ht : t.length = n := by simp at h; omega
   obtain ⟨hK1, hq⟩ := hstep.1 he ht
   have htl : t.length = l.length := by omega
   clear hstep hR
   conv=>whnf
   refine ABd.mk' q body.length rfl (by rw [List.length_map]) hq (by rw [List.length_map]; exact Nat.le_refl _) ?_
   conv=>whnf
   refine aloop ws110_4 7 [126] (fun k : Nat => [(126, iv k)]) (fun k => [(6, .var 160 ((colsL.getD 3 []).map FV.up)), (5, .rows 160 2 colsL), (4, .rows 95 10 ((wz (fun e v => { e with arm := v }) l t k).map enE))]) (fun k => k ≤ l.length) (fun k => l.length - k) [] [] 0 (by kernel_rfl) (fun _ => rfl) rfl (Nat.zero_le _) ⟨(by trivial), ⟨rfl, rfl, rfl⟩, ⟨rfl, rfl, by rw [wz_zero]⟩, trivial⟩ ⟨rfl, trivial⟩ ?_
   intro k hk
   conv=>whnf
   refine vif_split (fun hb => ?_) (fun hb => ?_)
   ·have hlt : k < l.length := by simp at hb; omega
    have hlt2 : k < t.length := by omega
    conv=>whnf
    (refine adraw pln110 [] (by kernel_rfl) ?_; conv=>whnf)
    refine AIn.mk' k rfl (by rw [List.length_map, wz_len _ _ _ _ htl]; exact hlt) ?_
    conv=>whnf
    refine AIn.mk' k rfl (lmZ hlt2) ?_
    conv=>whnf
    refine ARd.mapAt (List.getElem?_eq_getElem hlt2) ?_
    conv=>whnf
    (refine acallI (by kernel_rfl) (afn_of Tryz.func151 rfl mixed (by kernel_rfl) ?_); (conv=>whnf))
    refine aendE (.ep 4 k 8) ?_ rfl ?_ ?_
    rotate_left 1
    ·trivial
    ·trivial
    conv=>whnf
    refine ARd.mapAt (wz_at _ l t k hlt htl) ?_
    conv=>whnf
    refine AAr.i64 (by omega) ?_
    conv=>whnf
    refine aback (k + 1) [] [] rfl (by show l.length - (k + 1) < l.length - k; omega) hlt ⟨(by trivial), ⟨rfl, rfl, rfl⟩, ⟨rfl, rfl, ?_⟩, trivial⟩ ⟨rfl, trivial⟩
    rw [← wz_set _ l t k hlt htl, List.map_set]
    rfl
   have hke : k = l.length := by simp only [List.length_map, decide_eq_false_iff_not] at hb; omega
   subst hke
   rw [wz_all _ l t htl]
   conv=>whnf
   refine AAr.i64 (by dsimp only; omega) ?_
   conv=>whnf
   exact aback ⟨_, body.drop q, 1 + 1⟩ [] [] rfl (by show 3 - (1 + 1) < 3 - 1; decide) ⟨(by show 1 + 1 ≤ 3; decide), hK1⟩ ⟨(by trivial), ⟨rfl, rfl, rfl⟩, ⟨rfl, rfl, rfl⟩, trivial⟩ ⟨⟨rfl, List.map_drop.symm⟩, rfl, trivial⟩
  ·conv=>whnf
   refine AIn.mk' 2 rfl (by decide) ?_
   conv=>whnf
   refine ARd.at rfl ?_
   conv=>whnf
   (refine acallF [] (by kernel_rfl) (AFn.up (readIntsA body hbody) GS) ?_ ?_; (focus trivial))
   rintro _ _ _ ⟨t, q, e, hR, rfl, rfl, rfl⟩
   have hstep := hK.num (fun e v => { e with val := v }) (·.val) (fun _ => rfl) (fun _ => rfl) (fun e v he hv => ⟨by first | exact he.seq | exact hv, by first | exact he.kind | exact hv, by first | exact he.time | exact hv, by first | exact he.ver | exact hv, by first | exact he.arm | exact hv, by first | exact he.val | exact hv, he.client, he.id, he.name, he.other⟩) (fun c hc e he => (hc.ok e he).val) hR
   conv=>whnf
   apply vif_split <;> intro h
   ·have he : e ≠ 0 := by simpa using h
    conv=>whnf
    exact aend (.tup [el [], iv (0 : Nat), bv false]) 0 [] [] [] ⟨[], 0, false, RCs.no fun c r h1 h2 h3 => he (hstep.2 c r h1 h2 h3).1, rfl, rfl, rfl⟩ rfl trivial (by trivial)
   have he : e = 0 := by simpa using h
   conv=>whnf
   apply vif_split <;> intro h
   ·have ht : t.length ≠ n := by simp at h; omega
    conv=>whnf
    exact aend (.tup [el [], iv (0 : Nat), bv false]) 0 [] [] [] ⟨[], 0, false, RCs.no fun c r h1 h2 h3 => ht (hstep.2 c r h1 h2 h3).2, rfl, rfl, rfl⟩ rfl trivial (by trivial)
   have ht : t.length = n := by simp at h; omega
   obtain ⟨hK1, hq⟩ := hstep.1 he ht
   have htl : t.length = l.length := by omega
   clear hstep hR
   conv=>whnf
   refine ABd.mk' q body.length rfl (by rw [List.length_map]) hq (by rw [List.length_map]; exact Nat.le_refl _) ?_
   conv=>whnf
   refine aloop ws110_4 7 [126] (fun k : Nat => [(126, iv k)]) (fun k => [(6, .var 160 ((colsL.getD 3 []).map FV.up)), (5, .rows 160 2 colsL), (4, .rows 95 10 ((wz (fun e v => { e with val := v }) l t k).map enE))]) (fun k => k ≤ l.length) (fun k => l.length - k) [] [] 0 (by kernel_rfl) (fun _ => rfl) rfl (Nat.zero_le _) ⟨(by trivial), ⟨rfl, rfl, rfl⟩, ⟨rfl, rfl, by rw [wz_zero]⟩, trivial⟩ ⟨rfl, trivial⟩ ?_
   intro k hk
   conv=>whnf
   refine vif_split (fun hb => ?_) (fun hb => ?_)
   ·have hlt : k < l.length := by simp at hb; omega
    have hlt2 : k < t.length := by omega
    conv=>whnf
    (refine adraw pln110 [] (by kernel_rfl) ?_; conv=>whnf)
    refine AIn.mk' k rfl (by rw [List.length_map, wz_len _ _ _ _ htl]; exact hlt) ?_
    conv=>whnf
    refine AIn.mk' k rfl (lmZ hlt2) ?_
    conv=>whnf
    refine ARd.mapAt (List.getElem?_eq_getElem hlt2) ?_
    conv=>whnf
    (refine acallI (by kernel_rfl) (afn_of Tryz.func152 rfl mixed (by kernel_rfl) ?_); (conv=>whnf))
    refine aendE (.ep 4 k 9) ?_ rfl ?_ ?_
    rotate_left 1
    ·trivial
    ·trivial
    conv=>whnf
    refine ARd.mapAt (wz_at _ l t k hlt htl) ?_
    conv=>whnf
    refine AAr.i64 (by omega) ?_
    conv=>whnf
    refine aback (k + 1) [] [] rfl (by show l.length - (k + 1) < l.length - k; omega) hlt ⟨(by trivial), ⟨rfl, rfl, rfl⟩, ⟨rfl, rfl, ?_⟩, trivial⟩ ⟨rfl, trivial⟩
    rw [← wz_set _ l t k hlt htl, List.map_set]
    rfl
   have hke : k = l.length := by simp only [List.length_map, decide_eq_false_iff_not] at hb; omega
   subst hke
   rw [wz_all _ l t htl]
   conv=>whnf
   refine AAr.i64 (by dsimp only; omega) ?_
   conv=>whnf
   exact aback ⟨_, body.drop q, 2 + 1⟩ [] [] rfl (by show 3 - (2 + 1) < 3 - 2; decide) ⟨(by show 2 + 1 ≤ 3; decide), hK1⟩ ⟨(by trivial), ⟨rfl, rfl, rfl⟩, ⟨rfl, rfl, rfl⟩, trivial⟩ ⟨⟨rfl, List.map_drop.symm⟩, rfl, trivial⟩
  ·conv=>whnf
   refine AAr.i64 (by dsimp only; omega) ?_
   conv=>whnf
   exact aback ⟨l, body, 4⟩ [] [] rfl (by show 4 - 4 < 4 - 3; decide) ⟨(by show 4 ≤ 4; decide), hK⟩ ⟨⟨rfl, rfl, rfl⟩, ⟨rfl, rfl, rfl⟩, trivial⟩ ⟨⟨rfl, rfl⟩, rfl, trivial⟩
 ·conv=>whnf
  refine AAr.i64 (by simp only [List.length_map]; omega) ?_
  conv=>whnf
  refine aend (.tup [el l, iv ((hd.length + sz : Nat) : Int), bv true]) 0 [] [] [4] ⟨l, hd.length + sz, true, ⟨fun _ => ⟨hK.len, hK.ok, by omega⟩, fun h => (by cases h), fun c r h1 h2 h3 => ?_⟩, rfl, rfl, rfl⟩ rfl trivial ⟨⟨rfl, rfl, rfl⟩, ?_, rfl, trivial⟩
  ·obtain ⟨f1, f2, _⟩ := hfull2 c r h1 h2 h3
   refine ⟨rfl, ?_, ?_⟩
   ·rw [(hK.full c r h1 h2 h3).1]
    show c.map (mg 10) = c
    rw [show mg 10 = fun x => x from rfl, List.map_id']
   ·rw [f2, List.length_append, f1]
  ·refine ciZ ?_
   rw [List.length_map]
   rfl
end
section
attribute [local irreducible] best ints en bd txs dsT
def GT3 (b : By) (Q : List Ev → Prop) : Prop := ∀ l0 : List Ev, (∀ e ∈ l0, e.ok) → tbE l0 = 0 → b = tab l0 → Q l0
theorem tbE_0 {l : List Ev} (h : tbE l = 0) : l.length ≤ 512 ∧ evsC l = 0 := by
 unfold tbE at h
 split at h
 ·omega
 ·exact ⟨by omega, h⟩
def RTBs (b : By) (l : List Ev) (e : Int) : Prop := (∀ x ∈ l, x.ok) ∧ l.length ≤ 512 ∧ ((e = 0 ∧ tbE l = 0 ∧ tab l = b) ∨ (e = 1 ∧ l = [])) ∧ GT3 b fun l0 => e = 0 ∧ l = l0
theorem RTBs.no {b : By} (h : GT3 b fun _ => False) : RTBs b [] 1 := ⟨fun _ h => (by cases h), Nat.zero_le _, .inr ⟨rfl, rfl⟩, fun l0 h1 h2 h3 => (h l0 h1 h2 h3).elim⟩
theorem RTBs.two {b : By} {l l' : List Ev} {e e' : Int} (h : RTBs b l e) (h' : RTBs b l' e') : l = l' ∧ e = e' := by
 obtain ⟨a1, a2, a3, a4⟩ := h
 obtain ⟨b1, b2, b3, b4⟩ := h'
 rcases a3 with ⟨rfl, p1, p2⟩ | ⟨rfl, rfl⟩
 ·have := b4 l a1 p1 p2.symm
  exact ⟨this.2.symm, this.1.symm⟩
 ·rcases b3 with ⟨rfl, p1, p2⟩ | ⟨rfl, rfl⟩
  ·have := a4 l' b1 p1 p2.symm
   omega
  ·exact ⟨rfl, rfl⟩
structure KT (b : By) (n : Nat) (l : List Ev) (at_ : Nat) : Prop where
 len : l.length ≤ n
 ok : ∀ e ∈ l, e.ok
 atl : at_ ≤ b.length
 full : GT3 b fun l0 => n = l0.length ∧ ∃ i, i ≤ nC l0 ∧ l = l0.take (16 * i) ∧ b.drop at_ = ((List.range (nC l0)).drop i).flatMap fun j => chb (ch l0 j)
theorem KT.step {b : By} {n : Nat} {l : List Ev} {at_ : Nat} (h : KT b n l at_) (hlt : l.length < n) {c : List Ev} {k : Nat} {ok : Bool} (hR : RCs (b.drop at_) (min 16 (n - l.length)) c k ok) :
  (ok = true → KT b n (l ++ c) (at_ + k) ∧ 0 < c.length) ∧ GT3 b fun _ => ok = true := by
 have key : GT3 b fun l0 => ok = true ∧ ∃ i, i + 1 ≤ nC l0 ∧ l ++ c = l0.take (16 * (i + 1)) ∧ b.drop (at_ + k) = ((List.range (nC l0)).drop (i + 1)).flatMap fun j => chb (ch l0 j) := fun l0 h1 h2 h3 => by
  obtain ⟨q1, i, q2, q3, q4⟩ := h.full l0 h1 h2 h3
  have hl : l.length = min (16 * i) l0.length := by rw [q3, List.length_take]
  have hi : 16 * i < l0.length := by omega
  have hic : i < nC l0 := by unfold nC; omega
  have hlok := ch_lok h1 (evsC_all (tbE_0 h2).2) hic
  have hcl : (ch l0 i).length = min 16 (n - l.length) := by unfold ch; rw [List.length_take, List.length_drop]; omega
  have hd : (List.range (nC l0)).drop i = i :: (List.range (nC l0)).drop (i + 1) := by
   rw [List.drop_eq_getElem_cons (by rw [List.length_range]; exact hic), List.getElem_range]
  rw [hd, List.flatMap_cons] at q4
  obtain ⟨f1, f2, f3⟩ := hR.full _ _ hlok hcl q4
  refine ⟨f1, i, hic, ?_, ?_⟩
  ·rw [f2, q3, show 16 * (i + 1) = 16 * i + 16 by omega, List.take_add]; rfl
  ·rw [← List.drop_drop, q4, f3, List.drop_left' rfl]
 refine ⟨fun hk => ?_, fun l0 h1 h2 h3 => (key l0 h1 h2 h3).1⟩
 obtain ⟨g1, g2, g3⟩ := hR.good hk
 have ha := h.atl
 rw [List.length_drop] at g3
 refine ⟨⟨by rw [List.length_append]; omega, fun e he => ?_, by omega, fun l0 h1 h2 h3 => ⟨(h.full l0 h1 h2 h3).1, ?_⟩⟩, by omega⟩
 ·rcases List.mem_append.1 he with he | he
  ·exact h.ok e he
  ·exact g2 e he
 ·obtain ⟨_, i, r1, r2, r3⟩ := key l0 h1 h2 h3
  exact ⟨i + 1, r1, r2, r3⟩
theorem KT.fin {b : By} {n : Nat} {l : List Ev} {at_ : Nat} (h : KT b n l at_) (he : l.length = n) : GT3 b fun l0 => l = l0 := fun l0 h1 h2 h3 => by
 obtain ⟨q1, i, q2, q3, _⟩ := h.full l0 h1 h2 h3
 have hl : l.length = min (16 * i) l0.length := by rw [q3, List.length_take]
 rw [q3, List.take_of_length_le (by omega)]
structure TS where
 l : List Ev
 a : Nat
def RTBa (b : By) (a : AV) (m : Nat) (H : AHeap) : Prop := ∃ l e, RTBs b l e ∧ a = .tup [el l, iv e] ∧ m = 0 ∧ H = []
theorem readTableA (b : By) (hb : b.length ≤ 100000) : AFn Tryz.prog GS 79 [bs b] 0 [] (RTBa b) := by
 have hC := AFn.up (countA b 0 512 (by omega) (by decide)) GS
 have hr := cnT_rng b 0 512 5 (by decide) (by decide)
 have ho := rnT_ok b 0
 have hhead : GT3 b fun l0 => (cnT b 0 512 5).2.2 = 0 ∧ (cnT b 0 512 5).1 = (l0.length : Int) := fun l0 h1 h2 h3 => by
  have hl := (tbE_0 h2).1
  have r1 := rd1 (b := b) (e := 0) (i64_nat (by omega : l0.length ≤ 9223372036854775807)) rfl h3
  have := cnT_of (em := 5) (most := 512) r1.1 r1.2.1 (by omega)
  rw [this]
  exact ⟨rfl, rfl⟩
 generalize cnT b 0 512 5 = t at *
 obtain ⟨x, k, e⟩ := t
 simp only at hC hr hhead
 obtain ⟨n, rfl⟩ : ∃ n : Nat, x = (n : Int) := ⟨x.toNat, by omega⟩
 have hn : n ≤ 512 := by omega
 refine afn_of Tryz.func79 rfl mixed (by kernel_rfl) ?_
 conv=>whnf
 (refine acallF [] (by kernel_rfl) (AFn.up (newA b (by omega)) GS) ?_ ?_; (focus trivial))
 rintro _ _ _ ⟨rfl, rfl, rfl⟩
 conv=>whnf
 refine acallM [0] [] (by kernel_rfl) hC rfl (by trivial) (by trivial) ?_
 rintro _ _ _ ⟨rfl, rfl, rfl⟩
 refine ⟨rfl, ?_⟩
 conv=>whnf
 refine acallM [0] [] (by kernel_rfl) (AFn.up (errA (b.drop k) e) GS) rfl (by trivial) (by trivial) ?_
 rintro _ _ _ ⟨rfl, rfl, rfl⟩
 refine ⟨rfl, ?_⟩
 conv=>whnf
 apply vif_split <;> intro h
 ·have he : e ≠ 0 := by simpa using h
  conv=>whnf
  exact aend (.tup [el [], iv 1]) 0 [] [] [] ⟨[], 1, RTBs.no fun l0 h1 h2 h3 => he (hhead l0 h1 h2 h3).1, rfl, rfl, rfl⟩ rfl trivial (by trivial)
 have he : e = 0 := by simpa using h
 subst he
 obtain ⟨hr1, hr2⟩ := hr.2.2.2 rfl
 obtain ⟨_, hbe, hke⟩ := ho.2.2.1 hr1
 rw [← hr2] at hbe hke
 have hk0 : KT b n [] (num (n : Int)).length := by
  refine ⟨Nat.zero_le _, fun _ h => (by cases h), ?_, fun l0 h1 h2 h3 => ?_⟩
  ·have := congrArg List.length hbe
   rw [List.length_append] at this
   omega
  ·have hnl : n = l0.length := by have := (hhead l0 h1 h2 h3).2; omega
   refine ⟨hnl, 0, Nat.zero_le _, by simp, ?_⟩
   rw [h3]
   unfold tab tabA
   rw [hnl, List.drop_left' rfl, List.drop_zero]
 have n1 := (num_len (n : Int)).2
 conv=>whnf
 (refine acallF [] (by kernel_rfl) (AFn.up (putA [] (n : Int) (i64_nat (by omega)) (by simp)) GS) ?_ ?_; (focus trivial))
 rintro _ _ _ ⟨rfl, rfl, rfl⟩
 conv=>whnf
 refine aloop ws79_1 3 [6, 7] (fun x : TS => [(6, iv x.a), (7, .own 2)]) (fun x => [(2, .rows 95 10 (x.l.map enE))]) (fun x => KT b n x.l x.a) (fun x => n - x.l.length) [(2, .nil)] [] ⟨[], (num (n : Int)).length⟩ (by kernel_rfl) (fun _ => rfl) rfl hk0 ⟨rfl, trivial⟩ ⟨congrArg (fun n : Nat => Value.int .i64 (n : Int)) (by simp), trivial, trivial⟩ ?_
 rintro ⟨l, at_⟩ hK
 change KT b n l at_ at hK
 have hat := hK.atl
 have hle := hK.len
 conv=>whnf
 apply vif_split <;> intro h
 ·have hlt : l.length < n := by simp at h; omega
  conv=>whnf
  refine ABd.mk' at_ b.length rfl (by rw [List.length_map]) hat (by rw [List.length_map]; exact Nat.le_refl _) ?_
  conv=>whnf
  refine AAr.to (y := ((n - l.length : Nat) : Int)) (by rw [List.length_map]; dsimp only; rw [IntWalk.i64_in _ (by omega)]; omega) ?_
  conv=>whnf
  have hmin : min (16 : Int) ((n - l.length : Nat) : Int) = ((min 16 (n - l.length) : Nat) : Int) := by omega
  rw [hmin]
  have hcut : (b.map enB).drop at_ = (b.drop at_).map enB := List.map_drop.symm
  refine acallF [] (by kernel_rfl) (readChunkA (b.drop at_) (min 16 (n - l.length)) (drop_le hb) (by omega)) ⟨⟨rfl, hcut⟩, rfl, trivial⟩ ?_
  rintro _ _ _ ⟨c, q, ok, hR, rfl, rfl, rfl⟩
  obtain ⟨hs1, hs2⟩ := hK.step hlt hR
  conv=>whnf
  cases ok
  ·conv=>whnf
   exact aend (.tup [el [], iv 1]) 0 [] [] [] ⟨[], 1, RTBs.no (fun l0 h1 h2 h3 => Bool.false_ne_true (hs2 l0 h1 h2 h3)), rfl, rfl, rfl⟩ rfl trivial (by trivial)
  obtain ⟨hK1, hc0⟩ := hs1 rfl
  have hl1 := hK1.len
  rw [List.length_append] at hl1
  have hq := hK1.atl
  conv=>whnf
  refine VReq.mk (app_e (by simp only [List.length_map]; omega)) ?_
  conv=>whnf
  refine AAr.i64 (by dsimp only; omega) ?_
  conv=>whnf
  exact aback ⟨l ++ c, at_ + q⟩ [(2, .lab 3)] [] rfl (by show n - (l ++ c).length < n - l.length; rw [List.length_append]; omega) hK1 ⟨⟨rfl, rfl, List.map_append.symm⟩, trivial⟩ ⟨rfl, rfl, trivial⟩
 have hln : l.length = n := by simp at h; omega
 have hfin := hK.fin hln
 have hT := table1A l hK.ok (by omega)
 have hq := AFn.up (equalA (tbB l) b) GS
 conv=>whnf
 (refine acallF [2] (by kernel_rfl) (hT) ?_ ?_; (focus trivial))
 rintro _ _ _ ⟨rfl, rfl, rfl⟩
 conv=>whnf
 apply vif_split <;> intro h
 ·have he : tbE l ≠ 0 := by simpa using h
  conv=>whnf
  exact aend (.tup [el [], iv 1]) 0 [] [] [] ⟨[], 1, RTBs.no fun l0 h1 h2 h3 => he (by rw [hfin l0 h1 h2 h3]; exact h2), rfl, rfl, rfl⟩ rfl trivial (by trivial)
 have he : tbE l = 0 := by simpa using h
 have etb : tbB l = tab l := by unfold tbB; rw [if_pos he]
 rw [etb] at hq ⊢
 conv=>whnf
 (refine acall [] (by kernel_rfl) (hq) rfl ?_ ?_; (focus trivial))
 conv=>whnf
 apply vif_split <;> intro h
 ·have hp : ¬ tab l = b := by simpa using h
  conv=>whnf
  exact aend (.tup [el [], iv 1]) 0 [] [] [] ⟨[], 1, RTBs.no fun l0 h1 h2 h3 => hp (by rw [hfin l0 h1 h2 h3]; exact h3.symm), rfl, rfl, rfl⟩ rfl trivial (by trivial)
 ·have hp : tab l = b := by simpa using h
  conv=>whnf
  exact aend (.tup [el l, iv 0]) 0 [] [] [] ⟨l, 0, ⟨hK.ok, by omega, .inl ⟨rfl, he, hp⟩, fun l0 h1 h2 h3 => ⟨rfl, hfin l0 h1 h2 h3⟩⟩, rfl, rfl, rfl⟩ rfl trivial ⟨⟨rfl, rfl⟩, rfl, trivial⟩
end
structure Dk where
 now : List By
 safe : List By
 fuse : Int
 ops : Int
 dead : Bool
def Dk.zero : Dk := ⟨[], [], 0, 0, false⟩
def s64 (l : List By) : Prop := ∀ s ∈ l, s.length = 64
structure Dk.ok (d : Dk) : Prop where
 ev : d.now.length % 2 = 0
 lo : 8 ≤ d.now.length
 hi : d.now.length ≤ 256
 sf : d.safe.length = d.now.length
 fs : -1 ≤ d.fuse ∧ d.fuse ≤ 9223372036854775807
 op : 0 ≤ d.ops ∧ d.ops ≤ 4611686018427387904
 n64 : s64 d.now
 f64 : s64 d.safe
def Dk.dying (d : Dk) : Dk := { d with dead := true }
def Dk.tick (d : Dk) : Dk := { d with fuse := if 0 < d.fuse then d.fuse - 1 else d.fuse, ops := min (d.ops + 1) 4611686018427387904 }
def Dk.put (d : Dk) (n : Nat) (b : By) : Dk := { d.tick with now := d.now.set n b }
def Dk.flush (d : Dk) : Dk := { d.tick with safe := d.now }
theorem s64_set {l : List By} {n : Nat} {b : By} (h : s64 l) (hb : b.length = 64) : s64 (l.set n b) := fun s hs => by
 rcases List.mem_or_eq_of_mem_set hs with h1 | h1
 ·exact h s h1
 ·rw [h1]; exact hb
theorem Dk.ok.tick {d : Dk} (h : d.ok) : d.tick.ok := by
 obtain ⟨h1, h2, h3, h4, h5, h6, h7, h8⟩ := h
 refine ⟨h1, h2, h3, h4, ?_, ?_, h7, h8⟩
 ·show -1 ≤ (if 0 < d.fuse then d.fuse - 1 else d.fuse) ∧ (if 0 < d.fuse then d.fuse - 1 else d.fuse) ≤ 9223372036854775807
  split <;> omega
 ·show 0 ≤ min (d.ops + 1) 4611686018427387904 ∧ min (d.ops + 1) 4611686018427387904 ≤ 4611686018427387904
  omega
theorem Dk.ok.dying {d : Dk} (h : d.ok) : d.dying.ok := ⟨h.ev, h.lo, h.hi, h.sf, h.fs, h.op, h.n64, h.f64⟩
theorem Dk.ok.put {d : Dk} (h : d.ok) {n : Nat} {b : By} (hb : b.length = 64) : (d.put n b).ok := by
 obtain ⟨h1, h2, h3, h4, h5, h6, h7, h8⟩ := h.tick
 refine ⟨?_, ?_, ?_, ?_, h5, h6, s64_set h.n64 hb, h8⟩
 ·show (d.now.set n b).length % 2 = 0; rw [List.length_set]; exact h1
 ·show 8 ≤ (d.now.set n b).length; rw [List.length_set]; exact h2
 ·show (d.now.set n b).length ≤ 256; rw [List.length_set]; exact h3
 ·show d.safe.length = (d.now.set n b).length; rw [List.length_set]; exact h4
theorem Dk.ok.flush {d : Dk} (h : d.ok) : d.flush.ok := by
 obtain ⟨h1, h2, h3, h4, h5, h6, h7, h8⟩ := h.tick
 exact ⟨h1, h2, h3, rfl, h5, h6, h7, h7⟩
def dWr (d : Dk) (at_ : Nat) (l : List By) : Dk × Int :=
 match l with
 | [] => if d.dead then (d, 40) else if d.fuse = 0 then (d.dying, 40) else (d.flush, 0)
 | s :: r => if d.dead then (d, 40) else if d.fuse = 0 then (d.dying, 40) else dWr (d.put at_ s) (at_ + 1) r
theorem dWr_ok : ∀ {l : List By} {d : Dk} {at_ : Nat}, d.ok → s64 l → (dWr d at_ l).1.ok ∧ (dWr d at_ l).1.now.length = d.now.length ∧ ((dWr d at_ l).2 = 0 ∨ ((dWr d at_ l).2 = 40 ∧ (dWr d at_ l).1.dead = true)) := by
 intro l
 induction l with
 | nil =>
  intro d at_ h _
  unfold dWr
  cases hd : d.dead with
  | true => exact ⟨h, rfl, .inr ⟨rfl, hd⟩⟩
  | false =>
   rw [if_neg (by decide)]
   split
   ·exact ⟨h.dying, rfl, .inr ⟨rfl, rfl⟩⟩
   ·exact ⟨h.flush, rfl, .inl rfl⟩
 | cons s r ih =>
  intro d at_ h hl
  unfold dWr
  cases hd : d.dead with
  | true => exact ⟨h, rfl, .inr ⟨rfl, hd⟩⟩
  | false =>
   rw [if_neg (by decide)]
   split
   ·exact ⟨h.dying, rfl, .inr ⟨rfl, rfl⟩⟩
   ·have := ih (d := d.put at_ s) (at_ := at_ + 1) (h.put (hl s (List.mem_cons_self ..))) fun x hx => hl x (List.mem_cons_of_mem _ hx)
    refine ⟨this.1, this.2.1.trans ?_, this.2.2⟩
    show (d.now.set at_ s).length = d.now.length
    rw [List.length_set]
structure So where
 d : Dk
 gen : Int
 half : Int
 next : Int
 frame : Int
 ev : List Ev
def So.zero : So := ⟨Dk.zero, 0, 0, 0, 0, []⟩
def So.died (d : Dk) : So := { So.zero with d := d }
def grt (a : Int) (l : List By) : Int := l.foldl (fun a s => if rOk s then max a (hG s : Int) else a) a
theorem grt_le {l : List By} {a : Int} : a ≤ grt a l := by
 unfold grt
 induction l generalizing a with
 | nil => exact Int.le_refl _
 | cons s r ih =>
  rw [List.foldl_cons]
  refine Int.le_trans ?_ ih
  split
  ·exact Int.le_max_left _ _
  ·exact Int.le_refl _
theorem grt_lt {l : List By} {a : Int} (h : a ≤ 4294967295) : grt a l ≤ 4294967295 := by
 unfold grt
 induction l generalizing a with
 | nil => exact h
 | cons s r ih =>
  rw [List.foldl_cons]
  refine ih ?_
  have := hG_lt s
  split
  ·omega
  ·exact h
def cmpT (s : So) : So × Int :=
 if scE (grt s.gen s.d.now + 1) 0 (tab s.ev) ≠ 0 ∨ s.d.now.length / 2 < nS (tab s.ev) then (So.zero, 19)
 else if (dWr s.d ((1 - s.half).toNat * (s.d.now.length / 2)) (scL (grt s.gen s.d.now + 1) 0 (tab s.ev))).2 ≠ 0 then (So.died (dWr s.d ((1 - s.half).toNat * (s.d.now.length / 2)) (scL (grt s.gen s.d.now + 1) 0 (tab s.ev))).1, 40)
 else (⟨(dWr s.d ((1 - s.half).toNat * (s.d.now.length / 2)) (scL (grt s.gen s.d.now + 1) 0 (tab s.ev))).1, grt s.gen s.d.now + 1, 1 - s.half, (nS (tab s.ev) : Nat), 1, s.ev⟩, 0)
noncomputable def nxt (l : List By) : Int × Int × Nat × By × Bool :=
 match l with
 | [] => (0, 0, 0, [], false)
 | s :: _ => if hN s < 1 ∨ l.length < hN s then (0, 0, 0, [], false) else if (byt (l.take (hN s))).2.2.2 then ((byt (l.take (hN s))).1, (byt (l.take (hN s))).2.1, hN s, (byt (l.take (hN s))).2.2.1, true) else (0, 0, 0, [], false)
noncomputable def lgF (g : Int) : Nat → List By → Nat → List By
 | 0, _, _ => []
 | m + 1, l, k => if (nxt l).2.2.2.2 = true ∧ (nxt l).1 = g ∧ (nxt l).2.1 = (k : Int) then (nxt l).2.2.2.1 :: lgF g m (l.drop (nxt l).2.2.1) (k + 1) else []
noncomputable def rdT (b : By) : List Ev × Int :=
 open Classical in if h : ∃ l0 : List Ev, (∀ e ∈ l0, e.ok) ∧ tbE l0 = 0 ∧ b = tab l0 then (Classical.choose h, 0) else ([], 1)
theorem rdT_of {b : By} {l : List Ev} {e : Int} (h : RTBs b l e) : rdT b = (l, e) := by
 obtain ⟨h1, _, h2, h3⟩ := h
 unfold rdT
 rcases h2 with ⟨rfl, h4, h5⟩ | ⟨rfl, rfl⟩
 ·have hx : ∃ l0 : List Ev, (∀ e ∈ l0, e.ok) ∧ tbE l0 = 0 ∧ b = tab l0 := ⟨l, h1, h4, h5.symm⟩
  rw [dif_pos hx]
  obtain ⟨q1, q2, q3⟩ := Classical.choose_spec hx
  rw [(h3 _ q1 q2 q3).2]
 ·rw [dif_neg]
  rintro ⟨l0, q1, q2, q3⟩
  exact absurd (h3 l0 q1 q2 q3).1 (by decide)
theorem rdT_ok (b : By) : (∀ e ∈ (rdT b).1, e.ok) ∧ (rdT b).1.length ≤ 512 ∧ ((rdT b).2 = 0 → tbE (rdT b).1 = 0 ∧ b = tab (rdT b).1) ∧ ((rdT b).2 = 0 ∨ (rdT b).2 = 1) := by
 unfold rdT
 split
 ·rename_i hx
  obtain ⟨q1, q2, q3⟩ := Classical.choose_spec hx
  exact ⟨q1, (tbE_0 q2).1, fun _ => ⟨q2, q3⟩, .inl rfl⟩
 ·exact ⟨(fun _ h => by cases h), Nat.zero_le _, (fun h => by simp at h), .inr rfl⟩
noncomputable def evF (out : List Ev) : List By → List Ev
 | [] => out
 | b :: r => if (rdT b).2 ≠ 0 ∨ 512 < out.length + (rdT b).1.length then out else evF (out ++ (rdT b).1) r
noncomputable def isL (l : List By) : Bool := (nxt l).2.2.2.2 && decide ((nxt l).2.1 = 0)
noncomputable def evL (l : List By) : List Ev := evF [] (lgF (nxt l).1 l.length l 0)
noncomputable def hlf (a b : List By) : Int × List Ev :=
 if isL a = true ∧ (isL b = false ∨ (nxt b).1 ≤ (nxt a).1) then (0, evL a) else if isL b = true then (1, evL b) else (1, [])
noncomputable def opnT (d : Dk) : So × Int :=
 if d.dead then (So.died d, 40)
 else cmpT ⟨d, 0, (hlf (d.now.take (d.now.length / 2)) (d.now.drop (d.now.length / 2))).1, 0, 0, (hlf (d.now.take (d.now.length / 2)) (d.now.drop (d.now.length / 2))).2⟩
structure So.ok (s : So) : Prop where
 d : s.d.ok
 gen : 1 ≤ s.gen ∧ s.gen ≤ 4294967295
 half : s.half = 0 ∨ s.half = 1
 next : 1 ≤ s.next ∧ s.next ≤ (s.d.now.length / 2 : Nat)
 frame : 1 ≤ s.frame ∧ s.frame ≤ 65536
 ev : (∀ e ∈ s.ev, e.ok) ∧ tbE s.ev = 0
section
attribute [local irreducible] num hsh
theorem scE_3 {g f : Int} {b : By} (h : g < 1 ∨ 4294967295 < g ∨ f < 0 ∨ 65535 < f) : scE g f b = 3 ∧ scL g f b = [] := by
 have e : scE g f b = 3 := by unfold scE; rw [if_pos h]
 exact ⟨e, by unfold scL; rw [if_neg (by rw [e]; decide)]⟩
theorem scE_4 {g f : Int} {b : By} (h : ¬ (g < 1 ∨ 4294967295 < g ∨ f < 0 ∨ 65535 < f)) (h2 : 255 < nS b) : scE g f b = 4 ∧ scL g f b = [] := by
 have e : scE g f b = 4 := by unfold scE; rw [if_neg h, if_pos h2]
 exact ⟨e, by unfold scL; rw [if_neg (by rw [e]; decide)]⟩
theorem scE_ok {g f : Int} {b : By} (h : ¬ (g < 1 ∨ 4294967295 < g ∨ f < 0 ∨ 65535 < f)) (h2 : ¬ 255 < nS b) : scE g f b = 0 ∧ scL g f b = secs g.toNat f.toNat b := by
 have e : scE g f b = 0 := by unfold scE; rw [if_neg h, if_neg h2]
 exact ⟨e, by unfold scL; rw [if_pos e]⟩
theorem AAr.divN {K : Int → Prop} (v k : Nat) (hv : v < 1000000000) (c : K ((v / k : Nat) : Int)) : AAr .i64 ((v : Int).tdiv (k : Int)) K := by
 have h := Nat.div_le_self v k
 refine AAr.to (y := ((v / k : Nat) : Int)) ?_ c
 rw [show (v : Int).tdiv (k : Int) = ((v / k : Nat) : Int) from rfl]
 generalize v / k = q at *
 exact IntWalk.i64_in _ (by omega)
theorem snocS (l : List By) (b : By) : (l ++ [b]).map enS = l.map enS ++ [[.lst 1 (b.map enB)]] := by rw [List.map_append]; rfl
theorem prt_map (b : By) (i : Nat) : List.drop (i * 48) (List.take ((i + 1) * 48) ((pad b).map enB)) = (prt b i).map enB := by
 unfold prt
 rw [List.drop_take, show (i + 1) * 48 - i * 48 = 48 by omega, List.map_take, List.map_drop]
theorem sectorsA (G : Glob) (gen frame : Int) (b : By) (hb : b.length ≤ 3000000) : AFn Tryz.prog G 10 [iv gen, iv frame, bs b] 0 [] (Is (.tup [ss (scL gen frame b), iv (scE gen frame b)])) := by
 have hP := AFn.up (putA [] (b.length : Int) (i64_nat (by omega)) (Nat.zero_le _)) G
 rw [List.nil_append] at hP
 have hP : AFn Tryz.prog G 28 [bs [], iv ((b.map enB).length : Nat)] 0 [] (Own1 5 1 ((num (b.length : Int)).map enB)) := by rw [List.length_map]; exact hP
 have hnl := num_len (b.length : Int)
 have hdl : (dat b).length = (num (b.length : Int)).length + b.length := by unfold dat; rw [List.length_append]
 have hdm : (num (b.length : Int)).map enB ++ b.map enB = (dat b).map enB := by unfold dat; rw [List.map_append]
 refine afn_of Tryz.func10 rfl mixed (by kernel_rfl) ?_
 by_cases hc : gen < 1 ∨ 4294967295 < gen ∨ frame < 0 ∨ 65535 < frame
 ·obtain ⟨e1, e2⟩ := scE_3 (b := b) hc
  rw [e1, e2]
  conv=>whnf
  repeat' (apply vif_split <;> intro h <;> (conv=>whnf))
  all_goals first
   | exact aret [] (by trivial)
   | (exfalso; simp at *; omega)
 conv=>whnf
 apply vif_split <;> intro h
 ·exfalso; simp at h; omega
 conv=>whnf
 apply vif_split <;> intro h
 ·exfalso; simp at h; omega
 conv=>whnf
 apply vif_split <;> intro h
 ·exfalso; simp at h; omega
 conv=>whnf
 apply vif_split <;> intro h
 ·exfalso; simp at h; omega
 conv=>whnf
 (refine acallF [] (by kernel_rfl) (hP) ?_ ?_; (focus trivial))
 rintro _ _ _ ⟨rfl, rfl, rfl⟩
 conv=>whnf
 refine VReq.mk (app_ok (by simp only [List.length_map]; omega) (by kernel_rfl)) ?_
 conv=>whnf
 rw [hdm]
 refine AAr.i64 (by rw [List.length_map]; omega) ?_
 conv=>whnf
 refine AAr.to (y := (((dat b).length + 47 : Nat) : Int)) (by rw [List.length_map, IntWalk.i64_in _ (by omega)]; omega) ?_
 conv=>whnf
 refine VReq.mk (by decide) ?_
 refine AAr.divN _ 48 (by omega) ?_
 conv=>whnf
 have hpl := pad_len b
 have hpos := nS_pos b
 have hn1 : nS b * 48 < (dat b).length + 48 := by unfold nS; omega
 have hn2 : (dat b).length ≤ nS b * 48 := by unfold nS; omega
 have hpad : (dat b).map enB ++ (zeroT (nS b * 48 - (dat b).length)).data.toList.map enB = (pad b).map enB := by
  unfold pad; rw [List.map_append]; rfl
 rw [show ((dat b).length + 47) / 48 = nS b from rfl]
 apply vif_split <;> intro h
 ·obtain ⟨e1, e2⟩ := scE_4 hc (by simp at h; omega : 255 < nS b)
  rw [e1, e2]
  conv=>whnf
  exact aret [] (by trivial)
 have hns : ¬ 255 < nS b := by simp at h; omega
 obtain ⟨e1, e2⟩ := scE_ok hc hns
 rw [e1, e2]
 conv=>whnf
 refine AAr.to (y := ((nS b * 48 : Nat) : Int)) (by rw [IntWalk.i64_in _ (by omega)]; omega) ?_
 conv=>whnf
 refine AAr.to (y := ((nS b * 48 - (dat b).length : Nat) : Int)) (by rw [List.length_map, IntWalk.i64_in _ (by omega)]; omega) ?_
 conv=>whnf
 refine AMk.mk' (nS b * 48 - (dat b).length) rfl rfl ⟨by omega, by unfold maxLen; omega⟩ ?_
 conv=>whnf
 refine VReq.mk ?_ ?_
 ·have : (zeroT (nS b * 48 - (dat b).length)).size = nS b * 48 - (dat b).length := by simp [zeroT, ByteArray.size]
  rw [this, List.length_map]; unfold maxLen; omega
 conv=>whnf
 rw [hpad]
 conv=>whnf
 obtain ⟨g, hg⟩ : ∃ g : Nat, gen = (g : Int) := ⟨gen.toNat, by omega⟩
 obtain ⟨f, hf⟩ : ∃ f : Nat, frame = (f : Int) := ⟨frame.toNat, by omega⟩
 subst hg; subst hf
 simp only [Int.toNat_natCast]
 refine aloop ((8, 8) :: ws10_1) 4 [8, 10, 47] (fun i : Nat => [(8, bs (pad b)), (10, .own 3), (47, iv i)]) (fun i => [(3, .rows 22 1 ((secA g f b i).map enS))]) (fun i => i ≤ nS b) (fun i => nS b - i) [(3, .nil)] [2] 0 (by kernel_rfl) (fun _ => rfl) rfl (Nat.zero_le _) ⟨rfl, trivial⟩ ⟨⟨rfl, rfl, rfl⟩, trivial, rfl, trivial⟩ ?_
 intro i hi
 conv=>whnf
 apply vif_split <;> intro h
 rotate_left 1
 ·have hie : i = nS b := by simp at h; omega
  subst hie
  conv=>whnf
  refine aret [3] ?_
  trivial
 have hlt : i < nS b := by simp at h; omega
 conv=>whnf
 (refine adraw pln10 [3] (by kernel_rfl) ?_; conv=>whnf)
 refine AAr.to (y := ((i * 48 : Nat) : Int)) (by rw [IntWalk.i64_in _ (by omega)]; omega) ?_
 conv=>whnf
 refine AAr.i64 (by omega) ?_
 conv=>whnf
 refine AAr.to (y := (((i + 1) * 48 : Nat) : Int)) (by rw [IntWalk.i64_in _ (by omega)]; omega) ?_
 conv=>whnf
 refine ABd.mk' (i * 48) ((i + 1) * 48) rfl rfl (by omega) (by rw [List.length_map, hpl]; omega) ?_
 conv=>whnf
 have hprl := prt_len hlt
 refine acallF [] (by kernel_rfl) (sectorA G g f i (nS b) (prt b i) (by omega) (by omega) (by omega) (by omega) (by omega)) ⟨(by trivial), ⟨rfl, prt_map b i⟩, trivial⟩ ?_
 rintro _ _ _ ⟨rfl, rfl, rfl⟩
 conv=>whnf
 refine VReq.mk (app_ok (by rw [List.length_map, secA_len]; simp only [List.length_cons, List.length_nil]; omega) (by kernel_rfl)) ?_
 conv=>whnf
 refine AAr.i64 (by omega) ?_
 conv=>whnf
 exact aback (i + 1) [(3, .lab 6)] [] rfl (by show nS b - (i + 1) < nS b - i; omega) hlt ⟨⟨rfl, rfl, by rw [secA_succ, snocS]⟩, trivial⟩ ⟨⟨rfl, rfl⟩, rfl, rfl, trivial⟩
end
end Go.Proofs.YtocckceefcmeaaaGreatDoor.Cl

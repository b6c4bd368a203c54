/- Joined parts of the proof. The walks of the reference's tableReader and of its ReadTable -/
import Derived.Test.YtmhpfadbmpipkaaGreatDoorPk15
import Derived.Test.YtmhpfadbmpipkaaGreatDoorPk17
import Derived.Test.YtmhpfadbmpipkaaGreatDoorPk18
import Derived.Test.YtmhpfadbmpipkaaGreatDoorPk14
import Derived.Test.YtmhpfadbmpipkaaGreatDoorPk13
set_option linter.unusedVariables false
set_option linter.unusedSimpArgs false
set_option maxRecDepth 100000
set_option maxHeartbeats 16000000
namespace Go.Proofs.YtmhpfadbmpipkaaGreatDoor.Cl
open Go Go.RowKit Go.Proofs Go.Proofs.YtmhpfadbmpipkaaGreatDoor.Vc Go.Proofs.YtmhpfadbmpipkaaGreatDoor.Ax
attribute [local irreducible] loadVar storeVar Instr.indexAt Instr.index Instr.sliceAt Instr.makeSlice Instr.lookup Instr.mapUpdate Instr.range Instr.next Instr.entry Instr.makeMap Builtin.append_ Builtin.copy_ Builtin.len_ Builtin.min_ Builtin.max_ Builtin.cap_ Builtin.delete_ Builtin.clear_ convert binOp eqGuard Op.unary Calls
section
attribute [local irreducible] best ints en bd txs dsT bdy chb lims evC
def tr (b : By) (bad : Bool) : ABlk := .var 74 [bs b, bv bad]
def TRi (b : By) (bad : Bool) (n : Nat) (a : AV) (m : Nat) (H : AHeap) : Prop := ∃ (l : Li) (k : Nat) (ok : Bool), l.length = n ∧ AllI l ∧ k ≤ b.length ∧ (∀ l0 r, l0.length = n → AllI l0 → b = ints l0 ++ r → ok = true ∧ l = l0 ∧ b.drop k = r) ∧ a = li l ∧ m = 1 ∧ H = [(0, tr (b.drop k) (bad || !ok))]
def TRt (b : By) (bad : Bool) (n : Nat) (a : AV) (m : Nat) (H : AHeap) : Prop := ∃ (l : Tx) (k : Nat) (ok : Bool), l.length = n ∧ TOK l ∧ k ≤ b.length ∧ (∀ l0 r, l0.length = n → TOK l0 → b = txs l0 ++ r → ok = true ∧ l = l0 ∧ b.drop k = r) ∧ a = tl l ∧ m = 1 ∧ H = [(0, tr (b.drop k) (bad || !ok))]
theorem take_len {b x : By} (h : b.take x.length = x) : x.length ≤ b.length := by
 have := congrArg List.length h
 rw [List.length_take] at this
 omega
theorem tintsA (b : By) (bad : Bool) (n : Nat) (hb : b.length ≤ 100000) (hn : n ≤ 16) : AFn Tryz.prog GS 40 [.ptr 0 0, iv n] 1 [(0, tr b bad)] (TRi b bad n) := by
 refine afn_of Tryz.func40 rfl mixed (by kernel_rfl) ?_
 conv => whnf
 refine acallF [] (by kernel_rfl) (AFn.up (readInts2A b hb) GS) (by repeat' (first | rfl | trivial | apply And.intro)) ?_
 rintro _ _ _ ⟨l, k, e, ⟨r1, r2, r3, r4⟩, rfl, rfl, rfl⟩
 conv => whnf
 have key : ∀ l0 r, l0.length = n → AllI l0 → b = ints l0 ++ r → e = 0 ∧ l = l0 := fun l0 r h1 h2 h3 => r4 l0 r h2 (by omega) h3
 have hno : (¬ e = 0 ∨ ¬ l.length = n) → ∀ l0 r, l0.length = n → AllI l0 → b = ints l0 ++ r → False := fun h l0 r h1 h2 h3 => by
  have := key l0 r h1 h2 h3
  rcases h with h | h
  ·exact h this.1
  ·exact h (by rw [this.2]; exact h1)
 have hz : AllI (List.replicate n (0 : Int)) := fun x hx => by rw [List.eq_of_mem_replicate hx]; exact i64_nat (n := 0) (by decide)
 rcases r3 with ⟨rfl, hk, hp⟩ | ⟨rfl, rfl, rfl⟩
 ·have hkb : k ≤ b.length := by rw [hk]; exact take_len hp
  conv => whnf
  by_cases hl : l.length = n
  ·have e1 : ((((l.map enI).length : Nat) : Int) != (n : Int)) = false := by rw [List.length_map, hl]; simp
   rw [e1]
   conv => whnf
   refine ABd.mk' k b.length rfl (by rw [List.length_map]) hkb (by rw [List.length_map]; exact Nat.le_refl _) ?_
   conv => whnf
   have hcut : (b.map enB).drop k = (b.drop k).map enB := List.map_drop.symm
   refine aend (.lst 1 (l.map enI)) 1 [(0, tr (b.drop k) bad)] [] [] ⟨l, k, true, hl, r1, hkb, fun l0 r h1 h2 h3 => ⟨rfl, (key l0 r h1 h2 h3).2, ?_⟩, rfl, rfl, by simp⟩ rfl ⟨⟨rfl, ⟨rfl, hcut⟩, rfl, trivial⟩, trivial⟩ ⟨rfl, rfl⟩
   rw [hk, (key l0 r h1 h2 h3).2, h3, List.drop_left' rfl]
  ·have e1 : ((((l.map enI).length : Nat) : Int) != (n : Int)) = true := by rw [List.length_map]; simp; omega
   rw [e1]
   conv => whnf
   refine AMk.mk' n rfl rfl ⟨Nat.le_trans (Nat.mul_le_mul_left _ hn) (Nat.le_of_ble_eq_true (by kernel_rfl)), by unfold maxLen; omega⟩ ?_
   conv => whnf
   refine aend (.lst 1 ((List.replicate n (0 : Int)).map enI)) 1 [(0, tr b true)] [] [1] ⟨List.replicate n (0 : Int), 0, false, List.length_replicate, hz, Nat.zero_le _, fun l0 r h1 h2 h3 => (hno (.inr hl) l0 r h1 h2 h3).elim, rfl, rfl, by rw [List.drop_zero, Bool.not_false, Bool.or_true]⟩ rfl (by repeat' (first | rfl | trivial | apply And.intro)) ⟨rfl, rfl, ?_⟩
   rw [List.map_replicate]; rfl
 ·
  conv => whnf
  refine AMk.mk' n rfl rfl ⟨Nat.le_trans (Nat.mul_le_mul_left _ hn) (Nat.le_of_ble_eq_true (by kernel_rfl)), by unfold maxLen; omega⟩ ?_
  conv => whnf
  refine aend (.lst 1 ((List.replicate n (0 : Int)).map enI)) 1 [(0, tr b true)] [] [1] ⟨List.replicate n (0 : Int), 0, false, List.length_replicate, hz, Nat.zero_le _, fun l0 r h1 h2 h3 => (hno (.inl (by decide)) l0 r h1 h2 h3).elim, rfl, rfl, by rw [List.drop_zero, Bool.not_false, Bool.or_true]⟩ rfl (by repeat' (first | rfl | trivial | apply And.intro)) ⟨rfl, rfl, ?_⟩
  rw [List.map_replicate]; rfl
theorem ttextsA (b : By) (bad : Bool) (n : Nat) (hb : b.length ≤ 100000) (hn : n ≤ 16) : AFn Tryz.prog GS 39 [.ptr 0 0, iv n] 1 [(0, tr b bad)] (TRt b bad n) := by
 refine afn_of Tryz.func39 rfl mixed (by kernel_rfl) ?_
 conv => whnf
 refine acallF [] (by kernel_rfl) (AFn.up (readTexts2A b hb) GS) (by repeat' (first | rfl | trivial | apply And.intro)) ?_
 rintro _ _ _ ⟨l, k, e, ⟨r1, r2, r3, r4⟩, rfl, rfl, rfl⟩
 conv => whnf
 have key : ∀ l0 r, l0.length = n → TOK l0 → b = txs l0 ++ r → e = 0 ∧ l = l0 := fun l0 r h1 h2 h3 => r4 l0 r (by omega) h2 h3
 have hno : (¬ e = 0 ∨ ¬ l.length = n) → ∀ l0 r, l0.length = n → TOK l0 → b = txs l0 ++ r → False := fun h l0 r h1 h2 h3 => by
  have := key l0 r h1 h2 h3
  rcases h with h | h
  ·exact h this.1
  ·exact h (by rw [this.2]; exact h1)
 have hz : TOK (List.replicate n ([] : By)) := fun x hx => by rw [List.eq_of_mem_replicate hx]; exact (by decide)
 rcases r3 with ⟨rfl, hk, hp⟩ | ⟨rfl, rfl, rfl⟩
 ·have hkb : k ≤ b.length := by rw [hk]; exact take_len hp
  conv => whnf
  by_cases hl : l.length = n
  ·have e1 : ((((l.map enT).length : Nat) : Int) != (n : Int)) = false := by rw [List.length_map, hl]; simp
   rw [e1]
   conv => whnf
   refine ABd.mk' k b.length rfl (by rw [List.length_map]) hkb (by rw [List.length_map]; exact Nat.le_refl _) ?_
   conv => whnf
   have hcut : (b.map enB).drop k = (b.drop k).map enB := List.map_drop.symm
   refine aend (.lst 1 (l.map enT)) 1 [(0, tr (b.drop k) bad)] [] [] ⟨l, k, true, hl, r1, hkb, fun l0 r h1 h2 h3 => ⟨rfl, (key l0 r h1 h2 h3).2, ?_⟩, rfl, rfl, by simp⟩ rfl ⟨⟨rfl, ⟨rfl, hcut⟩, rfl, trivial⟩, trivial⟩ ⟨rfl, rfl⟩
   rw [hk, (key l0 r h1 h2 h3).2, h3, List.drop_left' rfl]
  ·have e1 : ((((l.map enT).length : Nat) : Int) != (n : Int)) = true := by rw [List.length_map]; simp; omega
   rw [e1]
   conv => whnf
   refine AMk.mk' n rfl rfl ⟨Nat.le_trans (Nat.mul_le_mul_left _ hn) (Nat.le_of_ble_eq_true (by kernel_rfl)), by unfold maxLen; omega⟩ ?_
   conv => whnf
   refine aend (.lst 1 ((List.replicate n ([] : By)).map enT)) 1 [(0, tr b true)] [] [1] ⟨List.replicate n ([] : By), 0, false, List.length_replicate, hz, Nat.zero_le _, fun l0 r h1 h2 h3 => (hno (.inr hl) l0 r h1 h2 h3).elim, rfl, rfl, by rw [List.drop_zero, Bool.not_false, Bool.or_true]⟩ rfl (by repeat' (first | rfl | trivial | apply And.intro)) ⟨rfl, rfl, ?_⟩
   rw [List.map_replicate]; rfl
 ·
  conv => whnf
  refine AMk.mk' n rfl rfl ⟨Nat.le_trans (Nat.mul_le_mul_left _ hn) (Nat.le_of_ble_eq_true (by kernel_rfl)), by unfold maxLen; omega⟩ ?_
  conv => whnf
  refine aend (.lst 1 ((List.replicate n ([] : By)).map enT)) 1 [(0, tr b true)] [] [1] ⟨List.replicate n ([] : By), 0, false, List.length_replicate, hz, Nat.zero_le _, fun l0 r h1 h2 h3 => (hno (.inl (by decide)) l0 r h1 h2 h3).elim, rfl, rfl, by rw [List.drop_zero, Bool.not_false, Bool.or_true]⟩ rfl (by repeat' (first | rfl | trivial | apply And.intro)) ⟨rfl, rfl, ?_⟩
  rw [List.map_replicate]; rfl
end
section
attribute [local irreducible] best ints en bd txs dsT bdy chb lims evC
structure KB (b : By) (n s : Nat) (body : By) (bad : Bool) : Prop where
 sz : body.length ≤ 100000
 full : GC2 b n fun c r => body = rs s c ∧ bad = false
theorem KB.num {b : By} {n s : Nat} {body : By} {bad : Bool} (h : KB b n s body bad) (f : Ev → Int) (hf : ∀ c, (cols c)[s]? = some (ints (c.map f))) (hs : ∀ c, LOK c → AllI (c.map f)) {l : List Int} {k : Nat} {ok : Bool}
  (hR : ∀ l0 r, l0.length = n → AllI l0 → body = ints l0 ++ r → ok = true ∧ l = l0 ∧ body.drop k = r) : KB b n (s + 1) (body.drop k) (bad || !ok) ∧ GC2 b n fun c _ => l = c.map f := by
 have key : GC2 b n fun c _ => ok = true ∧ l = c.map f ∧ body.drop k = rs (s + 1) c ∧ bad = false := fun c r hc hn hb => by
  obtain ⟨h1, h2⟩ := h.full c r hc hn hb
  obtain ⟨g1, g2, g3⟩ := hR (c.map f) (rs (s + 1) c) (by rw [List.length_map, hn]) (hs c hc) (by rw [h1, rs_step s c _ (hf c)])
  exact ⟨g1, g2, g3, h2⟩
 refine ⟨⟨by rw [List.length_drop]; have := h.sz; omega, fun c r hc hn hb => ?_⟩, fun c r hc hn hb => (key c r hc hn hb).2.1⟩
 obtain ⟨h1, _, h3, h4⟩ := key c r hc hn hb
 exact ⟨h3, by rw [h1, h4]; rfl⟩
theorem KB.txt {b : By} {n s : Nat} {body : By} {bad : Bool} (h : KB b n s body bad) (f : Ev → By) (hf : ∀ c, (cols c)[s]? = some (txs (c.map f))) (hs : ∀ c, LOK c → TOK (c.map f)) {l : List By} {k : Nat} {ok : Bool}
  (hR : ∀ l0 r, l0.length = n → TOK l0 → body = txs l0 ++ r → ok = true ∧ l = l0 ∧ body.drop k = r) : KB b n (s + 1) (body.drop k) (bad || !ok) ∧ GC2 b n fun c _ => l = c.map f := by
 have key : GC2 b n fun c _ => ok = true ∧ l = c.map f ∧ body.drop k = rs (s + 1) c ∧ bad = false := fun c r hc hn hb => by
  obtain ⟨h1, h2⟩ := h.full c r hc hn hb
  obtain ⟨g1, g2, g3⟩ := hR (c.map f) (rs (s + 1) c) (by rw [List.length_map, hn]) (hs c hc) (by rw [h1, rs_step s c _ (hf c)])
  exact ⟨g1, g2, g3, h2⟩
 refine ⟨⟨by rw [List.length_drop]; have := h.sz; omega, fun c r hc hn hb => ?_⟩, fun c r hc hn hb => (key c r hc hn hb).2.1⟩
 obtain ⟨h1, _, h3, h4⟩ := key c r hc hn hb
 exact ⟨h3, by rw [h1, h4]; rfl⟩
theorem heads2 (b : By) (n : Nat) (hb : b.length ≤ 100000) (x1 x2 x3 e1 e2 e3 : Int) (k1 k2 k3 : Nat) (h1 : rnT b 0 = (x1, k1, e1)) (h2 : rnT (b.drop k1) e1 = (x2, k2, e2)) (h3 : cnT ((b.drop k1).drop k2) e2 1073741824 5 = (x3, k3, e3)) :
  k1 + k2 + k3 ≤ b.length ∧ 0 ≤ x3 ∧ GC2 b n fun c r => e3 = 0 ∧ x3 = ((bdy c).length : Int) ∧ ((b.drop k1).drop k2).drop k3 = bdy c ++ r ∧ k1 + k2 + k3 + (bdy c).length = (chb c).length := by
 have hd := heads b n 1073741824 (by decide) (fun c r hc _ => by have := bdA_len hc 4; change (bdy c).length ≤ 70000 at this; omega) x1 x2 x3 e1 e2 e3 k1 k2 k3 h1 h2 h3
 have o1 := rnT_ok b 0
 have o2 := rnT_ok (b.drop k1) e1
 have o3 := rnT_ok ((b.drop k1).drop k2) e2
 have o4 := cnT_rng ((b.drop k1).drop k2) e2 1073741824 5 (by decide) (by decide)
 rw [h1] at o1
 rw [h2] at o2
 rw [h3] at o4
 simp only at o1 o2 o4
 have l1 := o1.2.1
 have l2 := o2.2.1
 have l3 := o3.2.1
 rw [← o4.2.2.1] at l3
 simp only [List.length_drop] at l2 l3
 refine ⟨by omega, hd.2.2.1, fun c r hc hn hcb => ?_⟩
 obtain ⟨f1, f2, f3, f4⟩ := hd.2.2.2.2.2 c r hc hn hcb
 obtain ⟨q1, q2⟩ := o4.2.2.2 f1
 obtain ⟨p1, p2, p3⟩ := o3.2.2.1 q1
 obtain ⟨u1, u2, u3⟩ := o2.2.2.1 p1
 obtain ⟨v1, v2, v3⟩ := o1.2.2.1 u1
 rw [← q2, ← o4.2.2.1] at p2
 rw [← q2, ← o4.2.2.1] at p3
 have e1 : b = num x1 ++ (num x2 ++ (num x3 ++ ((b.drop k1).drop k2).drop k3)) := by rw [← p2, ← u2]; exact v2
 have e2 : b = num x1 ++ (num x2 ++ (num x3 ++ (bdy c ++ r))) := by rw [hcb, f2, f3, f4]; unfold chb; simp only [List.append_assoc]
 have e3 := e1.symm.trans e2
 refine ⟨f1, f4, List.append_cancel_left (List.append_cancel_left (List.append_cancel_left e3)), ?_⟩
 unfold chb
 rw [← f2, ← f3, ← f4]
 simp only [List.length_append]
 omega
structure Cs where
 a : Tx
 s : Li
 k : Li
 t : Li
 d : Tx
 nm : Tx
 o : Tx
 v : Li
 r : Li
 w : Li
def Cs.ev (x : Cs) (i : Nat) : Ev := ⟨x.a.getD i [], x.s.getD i 0, x.k.getD i 0, x.t.getD i 0, x.d.getD i [], x.nm.getD i [], x.o.getD i [], x.v.getD i 0, x.r.getD i 0, x.w.getD i 0⟩
def Cs.evs (x : Cs) (n : Nat) : List Ev := (List.range n).map x.ev
structure Cs.ok (x : Cs) (n : Nat) : Prop where
 a : x.a.length = n ∧ TOK x.a
 s : x.s.length = n ∧ AllI x.s
 k : x.k.length = n ∧ AllI x.k
 t : x.t.length = n ∧ AllI x.t
 d : x.d.length = n ∧ TOK x.d
 nm : x.nm.length = n ∧ TOK x.nm
 o : x.o.length = n ∧ TOK x.o
 v : x.v.length = n ∧ AllI x.v
 r : x.r.length = n ∧ AllI x.r
 w : x.w.length = n ∧ AllI x.w
theorem getD_ok {α : Type} {P : α → Prop} {l : List α} {z : α} (h : ∀ x ∈ l, P x) (hz : P z) (i : Nat) : P (l.getD i z) := by
 rw [List.getD_eq_getElem?_getD]
 cases e : l[i]? with
 | none => exact hz
 | some x => exact h x (List.mem_of_getElem? e)
theorem getD_at {α : Type} {l : List α} {z : α} {i : Nat} (h : i < l.length) : l[i]? = some (l.getD i z) := by simp [List.getD_eq_getElem?_getD, h]
theorem Cs.ev_ok {x : Cs} {n : Nat} (h : x.ok n) (i : Nat) : (x.ev i).ok := by
 have z : I64 0 := i64_nat (n := 0) (by decide)
 have tx : ∀ {l : Tx}, TOK l → (l.getD i []).length ≤ 200 := fun h => getD_ok (P := fun s : By => s.length ≤ 200) h (by decide) i
 exact ⟨getD_ok h.s.2 z i, getD_ok h.k.2 z i, getD_ok h.t.2 z i, getD_ok h.v.2 z i, getD_ok h.r.2 z i, getD_ok h.w.2 z i, by have := tx h.a.2; show (x.a.getD i []).length ≤ _; omega, by have := tx h.d.2; show (x.d.getD i []).length ≤ _; omega, by have := tx h.nm.2; show (x.nm.getD i []).length ≤ _; omega, by have := tx h.o.2; show (x.o.getD i []).length ≤ _; omega⟩
theorem Cs.evs_len (x : Cs) (n : Nat) : (x.evs n).length = n := by simp [Cs.evs]
theorem Cs.evs_succ (x : Cs) (n : Nat) : x.evs (n + 1) = x.evs n ++ [x.ev n] := by simp [Cs.evs, List.range_succ]
theorem Cs.evs_ok {x : Cs} {n m : Nat} (h : x.ok n) : ∀ e ∈ x.evs m, e.ok := fun e he => by
 obtain ⟨i, _, rfl⟩ := List.mem_map.1 he
 exact Cs.ev_ok h i
theorem Cs.of (c : List Ev) : Cs.evs ⟨c.map (·.client), c.map (·.seq), c.map (·.kind), c.map (·.time), c.map (·.id), c.map (·.name), c.map (·.other), c.map (·.ver), c.map (·.arm), c.map (·.val)⟩ c.length = c := by
 apply List.ext_getElem
 ·rw [Cs.evs_len]
 ·intro i h1 h2
  simp [Cs.evs, Cs.ev, List.getD_eq_getElem?_getD, h2]
theorem bdy_take {c : List Ev} {r : By} {x : Int} {n : Nat} (h : x = ((bdy c).length : Int)) (e : x = (n : Int)) : (bdy c ++ r).take n = rs 0 c := by
 have : n = (bdy c).length := by omega
 rw [this, List.take_left' rfl, bdy_rs]
theorem enE_app2 (l : List Ev) (e : Ev) : l.map enE ++ [enE e] = (l ++ [e]).map enE := by rw [List.map_append]; rfl
theorem readTable2A (b : By) (hb : b.length ≤ 100000) : AFn Tryz.prog GS 13 [bs b] 0 [] (RTBa b) := by
 have hC := AFn.up (count2A b 0 0 512 (by omega) (Nat.zero_le _) (by decide)) GS
 have hr := cnT_rng b 0 512 5 (by decide) (by decide)
 have hle := cnT_le b 0 512 5
 have hz : (cnT b 0 512 5).2.2 ≠ 0 → (cnT b 0 512 5).1 = 0 := by
  rw [cnT_def]
  intro h
  simp only at h ⊢
  rw [if_neg h]
 have hhead : GT3 b fun l0 => (cnT b 0 512 5).2.2 = 0 ∧ (cnT b 0 512 5).1 = (l0.length : Int) ∧ b.drop (cnT b 0 512 5).2.1 = (List.range (nC l0)).flatMap fun j => chb (ch l0 j) := fun l0 h1 h2 h3 => by
  have hl := (tbE_0 h2).1
  have r1 := rd1 (b := b) (e := 0) (i64_nat (by omega : l0.length ≤ 9223372036854775807)) rfl h3
  have := cnT_of (em := 5) (most := 512) r1.1 r1.2.1 (by omega)
  rw [this]
  exact ⟨rfl, rfl, r1.2.2⟩
 rw [List.drop_zero, Nat.zero_add] at hC
 generalize cnT b 0 512 5 = t at *
 obtain ⟨x, k, e⟩ := t
 simp only at hC hr hhead hle hz
 obtain ⟨n, rfl⟩ : ∃ n : Nat, x = (n : Int) := ⟨x.toNat, by omega⟩
 have hn : n ≤ 512 := by omega
 have hk0 : KT b n [] k := ⟨Nat.zero_le _, fun _ h => (by cases h), hle, fun l0 h1 h2 h3 => by
  obtain ⟨_, q1, q2⟩ := hhead l0 h1 h2 h3
  exact ⟨by omega, 0, Nat.zero_le _, by simp, by rw [List.drop_zero]; exact q2⟩⟩
 refine afn_of Tryz.func13 rfl mixed (by kernel_rfl) ?_
 conv => whnf
 (refine acallF [] (by kernel_rfl) (AFn.up (new2A b) GS) ?_ ?_; (focus (repeat' (first | rfl | trivial | apply And.intro))))
 rintro _ _ _ ⟨rfl, rfl, rfl⟩
 conv => whnf
 refine acallM [0] [] (by kernel_rfl) hC rfl (by repeat' (first | rfl | trivial | apply And.intro)) (by repeat' (first | rfl | trivial | apply And.intro)) ?_
 rintro _ _ _ ⟨rfl, rfl, rfl⟩
 refine ⟨rfl, ?_⟩
 conv => whnf
 refine aloop ws13_1 2 [6] (fun x : TS => [(6, .own 1)]) (fun x => [(1, .rows 38 10 (x.l.map enE)), (0, rd2 b x.a e)]) (fun x => KT b n x.l x.a) (fun x => n - x.l.length) [(1, .nil)] [] ⟨[], k⟩ (by kernel_rfl) (fun _ => rfl) rfl hk0 ⟨rfl, (by repeat' (first | rfl | trivial | apply And.intro)), trivial⟩ ⟨trivial, trivial⟩ ?_
 rintro ⟨l, at_⟩ hK
 change KT b n l at_ at hK
 have hat := hK.atl
 have hle2 := hK.len
 conv => whnf
 apply vif_split <;> intro h
 ·have hlt : l.length < n := by simp at h; omega
  have he : e = 0 := by
   by_cases he : e = 0
   ·exact he
   ·have := hz he; omega
  subst he
  clear hC hr hhead hz hk0
  obtain ⟨⟨x1, k1, e1⟩, h1⟩ : ∃ t, rnT (b.drop at_) 0 = t := ⟨_, rfl⟩
  have hN1 := AFn.up (number2A b at_ 0 (by omega) hat) GS
  have u1 := (rnT_ok (b.drop at_) 0).2.1
  rw [h1] at hN1 u1
  simp only [List.length_drop] at hN1 u1
  have hN2 := AFn.up (number2A b (at_ + k1) e1 (by omega) (by omega)) GS
  rw [← List.drop_drop] at hN2
  obtain ⟨⟨x2, k2, e2⟩, h2⟩ : ∃ t, rnT ((b.drop at_).drop k1) e1 = t := ⟨_, rfl⟩
  have u2 := (rnT_ok ((b.drop at_).drop k1) e1).2.1
  rw [h2] at hN2 u2
  simp only [List.length_drop] at hN2 u2
  have hC := AFn.up (count2A b (at_ + k1 + k2) e2 1073741824 (by omega) (by omega) (by decide)) GS
  rw [← List.drop_drop, ← List.drop_drop] at hC
  obtain ⟨⟨x3, k3, e3⟩, h3⟩ : ∃ t, cnT (((b.drop at_).drop k1).drop k2) e2 1073741824 5 = t := ⟨_, rfl⟩
  rw [h3] at hC
  simp only at hC
  obtain ⟨hk3, hx3, hfull⟩ := heads2 (b.drop at_) (min 16 (n - l.length)) (drop_le hb) x1 x2 x3 e1 e2 e3 k1 k2 k3 h1 h2 h3
  clear h1 h2 h3
  rw [List.length_drop] at hk3
  have hstep : ∀ c k ok, RCs (b.drop at_) (min 16 (n - l.length)) c k ok → (ok = true → KT b n (l ++ c) (at_ + k) ∧ 0 < c.length) ∧ GT3 b fun _ => ok = true := fun c k ok hR => hK.step hlt hR
  have hbad : (GC2 (b.drop at_) (min 16 (n - l.length)) fun _ _ => False) → GT3 b fun _ => False := fun hno l0 h1 h2 h3 => Bool.false_ne_true ((hstep _ _ _ (RCs.no hno)).2 l0 h1 h2 h3)
  obtain ⟨sz, rfl⟩ : ∃ sz : Nat, x3 = (sz : Int) := ⟨x3.toNat, by omega⟩
  conv => whnf
  refine AAr.to (y := ((n - l.length : Nat) : Int)) (by rw [List.length_map]; dsimp only; rw [IntWalk.i64_in _ (by omega)]; omega) ?_
  conv => whnf
  have hmin : min (16 : Int) ((n - l.length : Nat) : Int) = ((min 16 (n - l.length) : Nat) : Int) := by omega
  rw [hmin]
  have hrow : min 16 (n - l.length) ≤ 16 := by omega
  have hrow1 : 0 < min 16 (n - l.length) := by omega
  have hrow2 : l.length + min 16 (n - l.length) ≤ n := by omega
  generalize min 16 (n - l.length) = rows at *
  refine acallM [0] [] (by kernel_rfl) hN1 rfl (by repeat' (first | rfl | trivial | apply And.intro)) (by repeat' (first | rfl | trivial | apply And.intro)) ?_
  rintro _ _ _ ⟨rfl, rfl, rfl⟩
  refine ⟨rfl, ?_⟩
  conv => whnf
  refine acallM [0] [] (by kernel_rfl) hN2 rfl (by repeat' (first | rfl | trivial | apply And.intro)) (by repeat' (first | rfl | trivial | apply And.intro)) ?_
  rintro _ _ _ ⟨rfl, rfl, rfl⟩
  refine ⟨rfl, ?_⟩
  conv => whnf
  refine acallM [0] [] (by kernel_rfl) hC rfl (by repeat' (first | rfl | trivial | apply And.intro)) (by repeat' (first | rfl | trivial | apply And.intro)) ?_
  rintro _ _ _ ⟨rfl, rfl, rfl⟩
  refine ⟨rfl, ?_⟩
  conv => whnf
  clear hN1 hN2 hC
  apply vif_split <;> intro h
  ·have he : e3 ≠ 0 := by simpa using h
   conv => whnf
   exact aend (.tup [el [], iv 1]) 0 [] [] [] ⟨[], 1, RTBs.no (hbad fun c r h1 h2 _ => he (hfull c r h1 h2 ‹_›).1), rfl, rfl, rfl⟩ rfl trivial (by repeat' (first | rfl | trivial | apply And.intro))
  have he : e3 = 0 := by simpa using h
  subst he
  obtain ⟨q, hq⟩ : ∃ q, q = at_ + k1 + k2 + k3 := ⟨_, rfl⟩
  have hqd : (((b.drop at_).drop k1).drop k2).drop k3 = b.drop q := by rw [List.drop_drop, List.drop_drop, List.drop_drop, hq]; congr 1; omega
  rw [hqd] at hfull
  rw [← hq]
  have hqb : q ≤ b.length := by omega
  conv => whnf
  refine AAr.to (y := ((b.length - q : Nat) : Int)) (by rw [List.length_map, IntWalk.i64_in _ (by omega)]; omega) ?_
  conv => whnf
  apply vif_split <;> intro h
  ·have hgt : b.length - q < sz := by simp at h; omega
   conv => whnf
   exact aend (.tup [el [], iv 1]) 0 [] [] [] ⟨[], 1, RTBs.no (hbad fun c r h1 h2 h3 => by
    obtain ⟨_, g2, g3, _⟩ := hfull c r h1 h2 h3
    have := congrArg List.length g3
    rw [List.length_append, List.length_drop] at this
    omega), rfl, rfl, rfl⟩ rfl trivial (by repeat' (first | rfl | trivial | apply And.intro))
  have hle3 : sz ≤ b.length - q := by simp at h; omega
  conv => whnf
  (refine adraw pln13 [] (by kernel_rfl) ?_; conv => whnf)
  repeat' (first
   | (refine And.intro ?_ ?_ <;> (conv => whnf))
   | (refine AAr.to (y := ((q + sz : Nat) : Int)) (by rw [IntWalk.i64_in _ (by omega)]; omega) ?_; conv => whnf)
   | (refine ABd.mk' q (q + sz) rfl rfl (by omega) (by rw [List.length_map]; omega) ?_; conv => whnf))
  have hcut : ((b.map enB).take (q + sz)).drop q = ((b.drop q).take sz).map enB := by
   rw [List.drop_take, List.map_take, List.map_drop, show q + sz - q = sz by omega]
  have hK0 : KB (b.drop at_) rows 0 ((b.drop q).take sz) false := ⟨by rw [List.length_take, List.length_drop]; omega, fun c r h1 h2 h3 => by
   obtain ⟨_, g2, g3, _⟩ := hfull c r h1 h2 h3
   exact ⟨by rw [g3]; exact bdy_take g2 rfl, rfl⟩⟩
  have hK1 := hK
  replace hK := hK0
  clear hK0
  obtain ⟨body, hbody⟩ : ∃ y, y = (b.drop q).take sz := ⟨_, rfl⟩
  obtain ⟨bad, hbd⟩ : ∃ y, y = false := ⟨_, rfl⟩
  rw [← hbody] at hcut hK
  rw [← hbd] at hK
  refine acallM [2] [] (by kernel_rfl) (ttextsA body bad rows hK.sz hrow) rfl (by refine ⟨⟨rfl, ⟨rfl, hcut⟩, ?_, trivial⟩, trivial⟩; rw [hbd]; rfl) (by repeat' (first | rfl | trivial | apply And.intro)) ?_
  rintro _ _ _ ⟨a, k, ok, hla, hta, _, hR, rfl, rfl, rfl⟩
  obtain ⟨hK', hGa⟩ := hK.txt (·.client) (fun _ => rfl) (fun c hc => tok_map hc.s1) hR
  replace hK := hK'
  clear hR hK'
  generalize body.drop k = body at *
  generalize (bad || !ok) = bad at *
  refine ⟨rfl, ?_⟩
  conv => whnf
  clear hcut hbody hbd
  refine acallM [2] [] (by kernel_rfl) (tintsA body bad rows hK.sz hrow) rfl (by repeat' (first | rfl | trivial | apply And.intro)) (by repeat' (first | rfl | trivial | apply And.intro)) ?_
  rintro _ _ _ ⟨s, k, ok, hls, hts, _, hR, rfl, rfl, rfl⟩
  obtain ⟨hK', hGs⟩ := hK.num (·.seq) (fun _ => rfl) (fun c hc => all_map fun e he => (hc.ok e he).seq) hR
  replace hK := hK'
  clear hR hK'
  generalize body.drop k = body at *
  generalize (bad || !ok) = bad at *
  refine ⟨rfl, ?_⟩
  conv => whnf
  refine acallM [2] [] (by kernel_rfl) (tintsA body bad rows hK.sz hrow) rfl (by repeat' (first | rfl | trivial | apply And.intro)) (by repeat' (first | rfl | trivial | apply And.intro)) ?_
  rintro _ _ _ ⟨kk, k, ok, hlkk, htkk, _, hR, rfl, rfl, rfl⟩
  obtain ⟨hK', hGkk⟩ := hK.num (·.kind) (fun _ => rfl) (fun c hc => all_map fun e he => (hc.ok e he).kind) hR
  replace hK := hK'
  clear hR hK'
  generalize body.drop k = body at *
  generalize (bad || !ok) = bad at *
  refine ⟨rfl, ?_⟩
  conv => whnf
  refine acallM [2] [] (by kernel_rfl) (tintsA body bad rows hK.sz hrow) rfl (by repeat' (first | rfl | trivial | apply And.intro)) (by repeat' (first | rfl | trivial | apply And.intro)) ?_
  rintro _ _ _ ⟨tm, k, ok, hltm, httm, _, hR, rfl, rfl, rfl⟩
  obtain ⟨hK', hGtm⟩ := hK.num (·.time) (fun _ => rfl) (fun c hc => all_map fun e he => (hc.ok e he).time) hR
  replace hK := hK'
  clear hR hK'
  generalize body.drop k = body at *
  generalize (bad || !ok) = bad at *
  refine ⟨rfl, ?_⟩
  conv => whnf
  refine acallM [2] [] (by kernel_rfl) (ttextsA body bad rows hK.sz hrow) rfl (by repeat' (first | rfl | trivial | apply And.intro)) (by repeat' (first | rfl | trivial | apply And.intro)) ?_
  rintro _ _ _ ⟨d, k, ok, hld, htd, _, hR, rfl, rfl, rfl⟩
  obtain ⟨hK', hGd⟩ := hK.txt (·.id) (fun _ => rfl) (fun c hc => tok_map hc.s2) hR
  replace hK := hK'
  clear hR hK'
  generalize body.drop k = body at *
  generalize (bad || !ok) = bad at *
  refine ⟨rfl, ?_⟩
  conv => whnf
  refine acallM [2] [] (by kernel_rfl) (ttextsA body bad rows hK.sz hrow) rfl (by repeat' (first | rfl | trivial | apply And.intro)) (by repeat' (first | rfl | trivial | apply And.intro)) ?_
  rintro _ _ _ ⟨nm, k, ok, hlnm, htnm, _, hR, rfl, rfl, rfl⟩
  obtain ⟨hK', hGnm⟩ := hK.txt (·.name) (fun _ => rfl) (fun c hc => tok_map hc.s3) hR
  replace hK := hK'
  clear hR hK'
  generalize body.drop k = body at *
  generalize (bad || !ok) = bad at *
  refine ⟨rfl, ?_⟩
  conv => whnf
  refine acallM [2] [] (by kernel_rfl) (ttextsA body bad rows hK.sz hrow) rfl (by repeat' (first | rfl | trivial | apply And.intro)) (by repeat' (first | rfl | trivial | apply And.intro)) ?_
  rintro _ _ _ ⟨o, k, ok, hlo, hto, _, hR, rfl, rfl, rfl⟩
  obtain ⟨hK', hGo⟩ := hK.txt (·.other) (fun _ => rfl) (fun c hc => tok_map hc.s4) hR
  replace hK := hK'
  clear hR hK'
  generalize body.drop k = body at *
  generalize (bad || !ok) = bad at *
  refine ⟨rfl, ?_⟩
  conv => whnf
  refine acallM [2] [] (by kernel_rfl) (tintsA body bad rows hK.sz hrow) rfl (by repeat' (first | rfl | trivial | apply And.intro)) (by repeat' (first | rfl | trivial | apply And.intro)) ?_
  rintro _ _ _ ⟨v, k, ok, hlv, htv, _, hR, rfl, rfl, rfl⟩
  obtain ⟨hK', hGv⟩ := hK.num (·.ver) (fun _ => rfl) (fun c hc => all_map fun e he => (hc.ok e he).ver) hR
  replace hK := hK'
  clear hR hK'
  generalize body.drop k = body at *
  generalize (bad || !ok) = bad at *
  refine ⟨rfl, ?_⟩
  conv => whnf
  refine acallM [2] [] (by kernel_rfl) (tintsA body bad rows hK.sz hrow) rfl (by repeat' (first | rfl | trivial | apply And.intro)) (by repeat' (first | rfl | trivial | apply And.intro)) ?_
  rintro _ _ _ ⟨r, k, ok, hlr, htr, _, hR, rfl, rfl, rfl⟩
  obtain ⟨hK', hGr⟩ := hK.num (·.arm) (fun _ => rfl) (fun c hc => all_map fun e he => (hc.ok e he).arm) hR
  replace hK := hK'
  clear hR hK'
  generalize body.drop k = body at *
  generalize (bad || !ok) = bad at *
  refine ⟨rfl, ?_⟩
  conv => whnf
  refine acallM [2] [] (by kernel_rfl) (tintsA body bad rows hK.sz hrow) rfl (by repeat' (first | rfl | trivial | apply And.intro)) (by repeat' (first | rfl | trivial | apply And.intro)) ?_
  rintro _ _ _ ⟨w, k, ok, hlw, htw, _, hR, rfl, rfl, rfl⟩
  obtain ⟨hK', hGw⟩ := hK.num (·.val) (fun _ => rfl) (fun c hc => all_map fun e he => (hc.ok e he).val) hR
  replace hK := hK'
  clear hR hK'
  generalize body.drop k = body at *
  generalize (bad || !ok) = bad at *
  refine ⟨rfl, ?_⟩
  conv => whnf
  have hx : Cs.ok ⟨a, s, kk, tm, d, nm, o, v, r, w⟩ rows := ⟨⟨hla, hta⟩, ⟨hls, hts⟩, ⟨hlkk, htkk⟩, ⟨hltm, httm⟩, ⟨hld, htd⟩, ⟨hlnm, htnm⟩, ⟨hlo, hto⟩, ⟨hlv, htv⟩, ⟨hlr, htr⟩, ⟨hlw, htw⟩⟩
  apply vif_split <;> intro h
  ·conv => whnf
   exact aend (.tup [el [], iv 1]) 0 [] [] [] ⟨[], 1, RTBs.no (hbad fun c r h1 h2 h3 => by
    have := (hK.full c r h1 h2 h3).2
    rw [h] at this
    cases this), rfl, rfl, rfl⟩ rfl trivial (by repeat' (first | rfl | trivial | apply And.intro))
  have hRC : RCs (b.drop at_) rows (Cs.evs ⟨a, s, kk, tm, d, nm, o, v, r, w⟩ rows) (k1 + k2 + k3 + sz) true := by
   refine ⟨fun _ => ⟨Cs.evs_len _ _, Cs.evs_ok hx, by rw [List.length_drop]; omega⟩, (fun h => by cases h), fun c r' h1 h2 h3 => ?_⟩
   obtain ⟨_, g2, g3, g4⟩ := hfull c r' h1 h2 h3
   refine ⟨rfl, ?_, by omega⟩
   rw [hGa c r' h1 h2 h3, hGs c r' h1 h2 h3, hGkk c r' h1 h2 h3, hGtm c r' h1 h2 h3, hGd c r' h1 h2 h3, hGnm c r' h1 h2 h3, hGo c r' h1 h2 h3, hGv c r' h1 h2 h3, hGr c r' h1 h2 h3, hGw c r' h1 h2 h3, ← h2]
   exact Cs.of c
  obtain ⟨hK2, hc0⟩ := (hstep _ _ _ hRC).1 rfl
  clear hRC hstep hbad hfull hK hGa hGs hGkk hGtm hGd hGnm hGo hGv hGr hGw
  obtain ⟨x, hxe⟩ : ∃ x : Cs, x = ⟨a, s, kk, tm, d, nm, o, v, r, w⟩ := ⟨_, rfl⟩
  rw [← hxe] at hx hK2 hc0
  have hl5 : ∀ i, (l ++ x.evs i).length = l.length + i := fun i => by rw [List.length_append, Cs.evs_len]
  have hlT := hK2.len
  have haT := hK2.atl
  rw [hl5] at hlT
  conv => whnf
  refine aloop ws13_2 4 [6, 20] (fun i : Nat => [(6, .own 3), (20, iv i)]) (fun i => [(3, .rows 38 10 ((l ++ x.evs i).map enE)), (2, tr body bad), (0, rd2 b q 0)]) (fun i => i ≤ rows) (fun i => rows - i) [(3, .lab 1)] [] 0 (by kernel_rfl) (fun _ => rfl) rfl (Nat.zero_le _) ⟨⟨rfl, rfl, by simp [Cs.evs]⟩, (by repeat' (first | rfl | trivial | apply And.intro)), (by repeat' (first | rfl | trivial | apply And.intro)), trivial⟩ (by repeat' (first | rfl | trivial | apply And.intro)) ?_
  intro i hi
  conv => whnf
  apply vif_split <;> intro h
  ·have hlt : i < rows := by simp at h; omega
   have g1 : a[i]? = some (a.getD i []) := getD_at (by omega)
   have g2 : s[i]? = some (s.getD i 0) := getD_at (by omega)
   have g3 : kk[i]? = some (kk.getD i 0) := getD_at (by omega)
   have g4 : tm[i]? = some (tm.getD i 0) := getD_at (by omega)
   have g5 : d[i]? = some (d.getD i []) := getD_at (by omega)
   have g6 : nm[i]? = some (nm.getD i []) := getD_at (by omega)
   have g7 : o[i]? = some (o.getD i []) := getD_at (by omega)
   have g8 : v[i]? = some (v.getD i 0) := getD_at (by omega)
   have g9 : r[i]? = some (r.getD i 0) := getD_at (by omega)
   have g10 : w[i]? = some (w.getD i 0) := getD_at (by omega)
   have hev : x.ev i = ⟨a.getD i [], s.getD i 0, kk.getD i 0, tm.getD i 0, d.getD i [], nm.getD i [], o.getD i [], v.getD i 0, r.getD i 0, w.getD i 0⟩ := by rw [hxe]; rfl
   have hl6 := hl5 i
   conv => whnf
   (refine adraw pln13 [] (by kernel_rfl) ?_; conv => whnf)
   repeat' (first
    | (refine And.intro ?_ ?_ <;> (conv => whnf))
    | (refine AIn.mk' i rfl (by rw [List.length_map]; omega) ?_; conv => whnf)
    | (refine ARd.mapAt (by with_reducible assumption) ?_; conv => whnf))
   refine VReq.mk (app_e (by simp only [List.length_map, List.length_cons, List.length_nil]; omega)) ?_
   conv => whnf
   refine AAr.i64 (by omega) ?_
   conv => whnf
   refine aback (i + 1) [(3, .lab 5)] [] rfl (by show rows - (i + 1) < rows - i; omega) hlt ⟨⟨rfl, rfl, ?_⟩, (by repeat' (first | rfl | trivial | apply And.intro)), (by repeat' (first | rfl | trivial | apply And.intro)), trivial⟩ (by repeat' (first | rfl | trivial | apply And.intro))
   rw [Cs.evs_succ, ← List.append_assoc, hev]
   rw [List.map_append (l₁ := l ++ x.evs i)]
   refine congrArg (List.map enE (l ++ x.evs i) ++ ·) ?_
   simp only [List.map_cons, List.map_nil, enE]
  have hie : i = rows := by simp at h; omega
  subst hie
  conv => whnf
  refine AAr.to (y := ((q + sz : Nat) : Int)) (by rw [IntWalk.i64_in _ (by omega)]; omega) ?_
  conv => whnf
  exact aback ⟨l ++ x.evs i, at_ + (k1 + k2 + k3 + sz)⟩ [(1, .lab 3)] [] rfl (by show n - (l ++ x.evs i).length < n - l.length; rw [hl5]; omega) hK2 ⟨(by repeat' (first | rfl | trivial | apply And.intro)), ⟨rfl, ⟨rfl, rfl⟩, congrArg (fun n : Nat => Value.int .i64 (n : Int)) (show q + sz = at_ + (k1 + k2 + k3 + sz) by omega), rfl, trivial⟩, trivial⟩ ⟨rfl, trivial⟩
 have hln : l.length = n := by simp at h; omega
 have hfin := hK.fin hln
 have hT := table2A l hK.ok (by omega)
 conv => whnf
 (refine acallF [1] (by kernel_rfl) (hT) ?_ ?_; (focus (repeat' (first | rfl | trivial | apply And.intro))))
 rintro _ _ _ ⟨rfl, rfl, rfl⟩
 conv => whnf
 apply vif_split <;> intro h
 ·have he : e ≠ 0 := by simpa using h
  conv => whnf
  exact aend (.tup [el [], iv 1]) 0 [] [] [] ⟨[], 1, RTBs.no fun l0 h1 h2 h3 => he (hhead l0 h1 h2 h3).1, rfl, rfl, rfl⟩ rfl trivial (by repeat' (first | rfl | trivial | apply And.intro))
 conv => whnf
 apply vif_split <;> intro h
 ·have he : tbE l ≠ 0 := by simpa using h
  conv => whnf
  exact aend (.tup [el [], iv 1]) 0 [] [] [] ⟨[], 1, RTBs.no fun l0 h1 h2 h3 => he (by rw [hfin l0 h1 h2 h3]; exact h2), rfl, rfl, rfl⟩ rfl trivial (by repeat' (first | rfl | trivial | apply And.intro))
 have he : tbE l = 0 := by simpa using h
 have etb : tbB l = tab l := by unfold tbB; rw [if_pos he]
 rw [etb]
 conv => whnf
 refine ABy.of ?_
 conv => whnf
 refine ABy.of ?_
 conv => whnf
 apply vif_split <;> intro h
 ·have hp : ¬ tab l = b := by simpa [sEq_tx] using h
  conv => whnf
  exact aend (.tup [el [], iv 1]) 0 [] [] [] ⟨[], 1, RTBs.no fun l0 h1 h2 h3 => hp (by rw [hfin l0 h1 h2 h3]; exact h3.symm), rfl, rfl, rfl⟩ rfl trivial (by repeat' (first | rfl | trivial | apply And.intro))
 ·have hp : tab l = b := by simpa [sEq_tx] using h
  conv => whnf
  exact aend (.tup [el l, iv 0]) 0 [] [] [] ⟨l, 0, ⟨hK.ok, by omega, .inl ⟨rfl, he, hp⟩, fun l0 h1 h2 h3 => ⟨rfl, hfin l0 h1 h2 h3⟩⟩, rfl, rfl, rfl⟩ rfl trivial ⟨⟨rfl, rfl⟩, rfl, trivial⟩
end
section
open Go.Proofs.YtmhpfadbmpipkaaGreatDoor.Ky
attribute [local irreducible] best ints en bd txs dsT
def inT (f t : Int) (e : Ev) : Bool := decide (f ≤ e.time) && decide (e.time < t)
def sel (f t : Int) (l : List Ev) : List Ev := l.filter (inT f t)
def hit (f t : Int) (c : List Ev) : Bool := decide ((lims c).1 < t) && decide (f ≤ (lims c).2)
def selC (f t : Int) (l : List Ev) (i : Nat) : List Ev := (List.range i).flatMap fun j => if hit f t (ch l j) then sel f t (ch l j) else []
def cntC (f t : Int) (l : List Ev) (i : Nat) : Nat := ((List.range i).filter fun j => hit f t (ch l j)).length
def ScO (f t : Int) (l : List Ev) (a : AV) (m : Nat) (H : AHeap) : Prop := a = .tup [el (selC f t l (nC l)), iv (cntC f t l (nC l)), iv 0] ∧ m = 0 ∧ H = []
theorem selC_succ (f t : Int) (l : List Ev) (i : Nat) : selC f t l (i + 1) = selC f t l i ++ (if hit f t (ch l i) then sel f t (ch l i) else []) := by
 unfold selC; rw [List.range_succ, List.flatMap_append]; simp
theorem cntC_succ (f t : Int) (l : List Ev) (i : Nat) : cntC f t l (i + 1) = cntC f t l i + (if hit f t (ch l i) then 1 else 0) := by
 unfold cntC
 rw [List.range_succ, List.filter_append, List.length_append]
 by_cases h : hit f t (ch l i) = true
 ·simp [h]
 ·simp [h]
theorem cntC_le (f t : Int) (l : List Ev) (i : Nat) : cntC f t l i ≤ i := by
 have := List.length_filter_le (fun j => hit f t (ch l j)) (List.range i)
 rw [List.length_range] at this
 exact this
theorem selC_le (f t : Int) (l : List Ev) (i : Nat) : (selC f t l i).length ≤ 16 * i := by
 induction i with
 | zero => simp [selC]
 | succ i ih =>
  rw [selC_succ, List.length_append]
  have h1 : (if hit f t (ch l i) then sel f t (ch l i) else []).length ≤ 16 := by
   split
   ·have := List.length_filter_le (inT f t) (ch l i)
    have h2 : (ch l i).length ≤ 16 := by unfold ch; rw [List.length_take]; omega
    unfold sel; omega
   ·simp
  omega
theorem sel_take (f t : Int) {l : List Ev} {j : Nat} (h : j < l.length) : sel f t (l.take (j + 1)) = sel f t (l.take j) ++ (if inT f t l[j] then [l[j]] else []) := by
 unfold sel
 rw [List.take_succ_eq_append_getElem h, List.filter_append]
 by_cases hc : inT f t l[j] = true
 ·simp [hc]
 ·simp [hc]
theorem scanA (l : List Ev) (f t : Int) (hl : l.length ≤ 512) (hok : ∀ e ∈ l, e.ok) (hv : tbE l = 0) (hb : (tab l).length ≤ 100000) : AFn Tryz.prog GS 16 [bs (tab l), iv f, iv t] 0 [] (ScO f t l) := by
 refine afnY_of Tryz.func16 rfl mixed (by kernel_rfl) ?_
 conv => whnf
 have hR := readTableA (tab l) hb
 (refine acallF [] (by kernel_rfl) (hR) ?_ ?_; (focus (repeat' (first | rfl | trivial | apply And.intro))))
 rintro _ _ _ ⟨l2, f2, hq, rfl, rfl, rfl⟩
 obtain ⟨rfl, rfl⟩ := hq.2.2.2 l hok hv rfl
 conv => whnf
 (refine acallF [] (by kernel_rfl) (chunkA GS (l2.map enE)) ?_ ?_; (focus (repeat' (first | rfl | trivial | apply And.intro))))
 rintro _ _ _ ⟨rfl, rfl, rfl⟩
 conv => whnf
 have hnC : (chsN (l2.map enE)).length = nC l2 := by unfold chsN nCh nC; simp
 have hvs := evsC_all (tbE_0 hv).2
 refine arange (chunkI GS (l2.map enE) (by rw [List.length_map]; omega)) 5 (fun i => [(0, .var 3 [iv f]), (1, .var 3 [iv t]), (2, .var 22 [.own 4]), (3, .var 3 [iv (cntC f t l2 i)]), (4, .rows 38 10 ((selC f t l2 i).map enE))]) [(4, .nil)] [] rfl (by kernel_rfl) rfl (fun x hx => ?_) rfl (by repeat' (first | rfl | trivial | apply And.intro)) (fun i x hx => ?_) ?_
 ·obtain ⟨j, _, rfl⟩ := List.mem_map.1 hx
  rfl
 ·have hlt : i < nC l2 := by
   rw [← hnC]
   exact (List.getElem?_eq_some_iff.1 hx).1
  have hx' : x = [.lst 10 ((ch l2 i).map enE)] := by
   unfold chsN at hx
   rw [List.getElem?_map, List.getElem?_range (by unfold nCh; rw [List.length_map]; exact hlt)] at hx
   injection hx with hx
   rw [← hx]; show [AV.lst 10 (chN (l2.map enE) i)] = _; rw [chN_map]
  subst hx'
  conv => whnf
  have hlok := ch_lok hok hvs hlt
  have hnc : nC l2 ≤ 32 := by unfold nC; omega
  have hcl := cntC_le f t l2 i
  have hsl := selC_le f t l2 i
  (refine acallF [] (by kernel_rfl) (limits1LA (ch l2 i) hlok) ?_ ?_; (focus (repeat' (first | rfl | trivial | apply And.intro))))
  rintro _ _ _ ⟨rfl, rfl, rfl⟩
  conv => whnf
  have hhit : hit f t (ch l2 i) = (decide ((lims (ch l2 i)).1 < t) && decide (f ≤ (lims (ch l2 i)).2)) := rfl
  have hS := selC_succ f t l2 i
  have hK := cntC_succ f t l2 i
  generalize lims (ch l2 i) = lm at *
  obtain ⟨lo, hi⟩ := lm
  dsimp only at hhit
  apply vif_split <;> intro h
  ·have hno : hit f t (ch l2 i) = false := by rw [hhit]; simp only [decide_eq_true_eq] at h; rw [decide_eq_false (by omega)]; rfl
   rw [hno] at hS hK
   conv => whnf
   refine arback [(4, .lab 4)] [] rfl ?_
   rw [hS, hK]
   simp only [Bool.false_eq_true, if_false, List.append_nil, Nat.add_zero]
   repeat' (first | rfl | trivial | apply And.intro)
  conv => whnf
  refine vif_split (fun h2 => ?_) (fun h2 => ?_)
  ·have hno : hit f t (ch l2 i) = false := by rw [hhit]; simp only [cond_false, decide_eq_true_eq] at h2; rw [decide_eq_false (by omega : ¬ f ≤ hi), Bool.and_false]
   rw [hno] at hS hK
   conv => whnf
   refine arback [(4, .lab 4)] [] rfl ?_
   rw [hS, hK]
   simp only [Bool.false_eq_true, if_false, List.append_nil, Nat.add_zero]
   repeat' (first | rfl | trivial | apply And.intro)
  have hyes : hit f t (ch l2 i) = true := by
   rw [hhit]; simp only [cond_false, decide_eq_false_iff_not] at h h2
   rw [decide_eq_true (by omega : lo < t), decide_eq_true (by omega : f ≤ hi)]; rfl
  rw [hyes] at hS hK
  simp only [if_true] at hS hK
  conv => whnf
  refine AAr.i64 (by omega) ?_
  conv => whnf
  have hc16 : (ch l2 i).length ≤ 16 := by unfold ch; rw [List.length_take]; omega
  refine aloop ws16_1 6 [46] (fun j : Nat => [(46, iv j)]) (fun j => [(0, .var 3 [iv f]), (1, .var 3 [iv t]), (2, .var 22 [.own 5]), (3, .var 3 [iv ((cntC f t l2 i : Int) + 1)]), (5, .rows 38 10 ((selC f t l2 i ++ sel f t ((ch l2 i).take j)).map enE))]) (fun j => j ≤ (ch l2 i).length) (fun j => (ch l2 i).length - j) [(5, .lab 4)] [] 0 (by kernel_rfl) (fun _ => rfl) rfl (Nat.zero_le _) ⟨(by repeat' (first | rfl | trivial | apply And.intro)), (by repeat' (first | rfl | trivial | apply And.intro)), (by repeat' (first | rfl | trivial | apply And.intro)), (by repeat' (first | rfl | trivial | apply And.intro)), ⟨rfl, rfl, ?_⟩, trivial⟩ ⟨rfl, trivial⟩ ?_
  ·rw [List.take_zero]; unfold sel; rw [List.filter_nil, List.append_nil]
  intro j hj
  conv => whnf
  apply vif_split <;> intro h
  ·have hlj : j < (ch l2 i).length := by simp at h; omega
   have hT := sel_take f t hlj
   conv => whnf
   repeat' (first
    | (refine And.intro ?_ ?_ <;> (conv => whnf))
    | (refine AIn.mk' j rfl (by rw [List.length_map]; exact hlj) ?_; conv => whnf)
    | (refine ARd.mapAt (List.getElem?_eq_getElem hlj) ?_; conv => whnf))
   have hin : inT f t (ch l2 i)[j] = (decide (f ≤ (ch l2 i)[j].time) && decide ((ch l2 i)[j].time < t)) := rfl
   have hsl2 : (selC f t l2 i ++ sel f t ((ch l2 i).take j)).length ≤ 600 := by
    rw [List.length_append]
    have := List.length_filter_le (inT f t) ((ch l2 i).take j)
    rw [List.length_take] at this
    unfold sel; omega
   refine vif_split (fun h1 => ?_) (fun h1 => ?_)
   rotate_left 1
   ·rw [h1] at hin
    rw [hin] at hT
    conv => whnf
    refine AAr.i64 (by omega) ?_
    conv => whnf
    refine aback (j + 1) [(5, .lab 5)] [] rfl (by show (ch l2 i).length - (j + 1) < (ch l2 i).length - j; omega) hlj ⟨(by repeat' (first | rfl | trivial | apply And.intro)), (by repeat' (first | rfl | trivial | apply And.intro)), (by repeat' (first | rfl | trivial | apply And.intro)), (by repeat' (first | rfl | trivial | apply And.intro)), ⟨rfl, rfl, ?_⟩, trivial⟩ ⟨rfl, trivial⟩
    rw [hT]; simp
   conv => whnf
   refine vif_split (fun h2 => ?_) (fun h2 => ?_)
   rotate_left 1
   ·simp only [cond_true] at h2
    rw [h1, h2] at hin
    rw [hin] at hT
    conv => whnf
    refine AAr.i64 (by omega) ?_
    conv => whnf
    refine aback (j + 1) [(5, .lab 5)] [] rfl (by show (ch l2 i).length - (j + 1) < (ch l2 i).length - j; omega) hlj ⟨(by repeat' (first | rfl | trivial | apply And.intro)), (by repeat' (first | rfl | trivial | apply And.intro)), (by repeat' (first | rfl | trivial | apply And.intro)), (by repeat' (first | rfl | trivial | apply And.intro)), ⟨rfl, rfl, ?_⟩, trivial⟩ ⟨rfl, trivial⟩
    rw [hT]; simp
   simp only [cond_true] at h2
   rw [h1, h2] at hin
   rw [hin] at hT
   conv => whnf
   refine VReq.mk (app_ok (by simp only [List.length_map, List.length_cons, List.length_nil]; omega) (by kernel_rfl)) ?_
   conv => whnf
   refine AAr.i64 (by omega) ?_
   conv => whnf
   refine aback (j + 1) [(5, .lab 8)] [] rfl (by show (ch l2 i).length - (j + 1) < (ch l2 i).length - j; omega) hlj ⟨(by repeat' (first | rfl | trivial | apply And.intro)), (by repeat' (first | rfl | trivial | apply And.intro)), (by repeat' (first | rfl | trivial | apply And.intro)), (by repeat' (first | rfl | trivial | apply And.intro)), ⟨rfl, rfl, ?_⟩, trivial⟩ ⟨rfl, trivial⟩
   simp only [Bool.and_self, if_true] at hT
   rw [hT]
   simp only [List.map_append]
   rw [List.append_assoc]
   rfl
  ·have hje : j = (ch l2 i).length := by simp at h; omega
   subst hje
   rw [List.take_length]
   conv => whnf
   refine arback [(4, .lab 5)] [] rfl ?_
   rw [hS, hK]
   repeat' (first | rfl | trivial | apply And.intro)
 ·rw [hnC]
  conv => whnf
  (refine adraw pln16 [] (by kernel_rfl) ?_; conv => whnf)
  refine aend (.tup [el (selC f t l2 (nC l2)), iv (cntC f t l2 (nC l2)), iv 0]) 0 [] [] [4] ⟨rfl, rfl, rfl⟩ rfl trivial ?_
  repeat' (first | rfl | trivial | apply And.intro)
end
section
def idsT : Tx := [[97, 110, 110], [98, 111, 98], [99, 97, 116], [100, 97, 110], [101, 118, 101], [102, 97, 121]]
def idT (n : Nat) : By := idsT.getD (n % 6) []
theorem idsTA : AFn Tryz.prog GC 41 [] 0 [] (Own1 9 1 (idsT.map enT)) := by
 refine afn_of Tryz.func41 rfl mixed (by kernel_rfl) ?_
 conv => whnf
 exact aend (.own 0) 1 _ [(0, .lab 0)] [] ⟨rfl, rfl, rfl⟩ rfl (by repeat' (first | rfl | trivial | apply And.intro)) (by repeat' (first | rfl | trivial | apply And.intro))
theorem idsT_len : idsT.length = 6 := rfl
attribute [local irreducible] idsT
theorem idTA (n : Nat) (hn : n < 1000000) : AFn Tryz.prog GC 15 [iv n] 0 [] (Is (tv (idT n))) := by
 refine afn_of Tryz.func15 rfl mixed (by kernel_rfl) ?_
 conv => whnf
 (refine acallF [] (by kernel_rfl) (idsTA) ?_ ?_; (focus (repeat' (first | rfl | trivial | apply And.intro))))
 rintro _ _ _ ⟨rfl, rfl, rfl⟩
 conv => whnf
 (refine acallF [] (by kernel_rfl) (idsTA) ?_ ?_; (focus (repeat' (first | rfl | trivial | apply And.intro))))
 rintro _ _ _ ⟨rfl, rfl, rfl⟩
 conv => whnf
 rw [List.length_map, idsT_len]
 refine VReq.mk (by decide) ?_
 conv => whnf
 have hlt : n % 6 < idsT.length := by rw [idsT_len]; omega
 refine AIn.mk' (n % 6) rfl (by rw [List.length_map]; exact hlt) ?_
 conv => whnf
 refine ARd.mapAt (List.getElem?_eq_getElem hlt) ?_
 conv => whnf
 refine aret [] (congrArg (fun x : By => Value.string ⟨x.toArray⟩) ?_)
 unfold idT
 rw [List.getD_eq_getElem?_getD, List.getElem?_eq_getElem hlt]
 rfl
end
section
open Go.Proofs.YtmhpfadbmpipkaaGreatDoor.Ky
def srB (L : By) (at_ : Nat) : ABlk := .var 57 [bs L, iv at_]
def nxV (L : By) (at_ n : Nat) : Nat := (L.getD at_ 0).toNat % n
def nxA (L : By) (at_ : Nat) : Nat := if at_ < L.length then at_ + 1 else at_
theorem nxV_lt (L : By) (at_ n : Nat) (h : 0 < n) : nxV L at_ n < n := Nat.mod_lt _ h
theorem nxA_le {L : By} {at_ : Nat} (h : at_ ≤ L.length) : nxA L at_ ≤ L.length := by unfold nxA; split <;> omega
theorem nextA (L : By) (at_ n : Nat) (hn : 0 < n) (hn2 : n ≤ 256) (hL : L.length ≤ 100000) (ha : at_ ≤ L.length) : AFn Tryz.prog GS 28 [.ptr 0 0, iv n] 1 [(0, srB L at_)] (fun a m H => a = iv (nxV L at_ n) ∧ m = 1 ∧ H = [(0, srB L (nxA L at_))]) := by
 refine afn_of Tryz.func28 rfl mixed (by kernel_rfl) ?_
 conv => whnf
 (refine adraw pln28 [] (by kernel_rfl) ?_; conv => whnf)
 apply vif_split <;> intro h
 ·have hge : L.length ≤ at_ := by simp at h; omega
  conv => whnf
  refine aend (iv (nxV L at_ n)) 1 [(0, srB L (nxA L at_))] [] [] ⟨rfl, rfl, rfl⟩ rfl ?_ ?_
  ·unfold nxA; rw [if_neg (by omega)]; repeat' (first | rfl | trivial | apply And.intro)
  ·unfold nxV; rw [List.getD_eq_getElem?_getD, List.getElem?_eq_none hge, Option.getD_none, show (0 : UInt8).toNat = 0 from rfl, Nat.zero_mod]; repeat' (first | rfl | trivial | apply And.intro)
 have hlt : at_ < L.length := by simp at h; omega
 conv => whnf
 refine AAr.i64 (by omega) ?_
 conv => whnf
 (refine adraw pln28 [] (by kernel_rfl) ?_; conv => whnf)
 repeat' (first
  | (refine And.intro ?_ ?_ <;> (conv => whnf))
  | (refine AAr.to (y := ((at_ : Nat) : Int)) (by rw [show ((at_ : Nat) : Int) + 1 - 1 = ((at_ : Nat) : Int) by omega]; exact IntWalk.i64_in _ (by omega)) ?_; conv => whnf)
  | (refine AIn.mk' at_ rfl (by rw [List.length_map]; exact hlt) ?_; conv => whnf)
  | (refine ARd.mapAt (List.getElem?_eq_getElem hlt) ?_; conv => whnf)
  | (refine AAr.i64 (by have := L[at_].toNat_lt; omega) ?_; conv => whnf)
  | (refine VReq.mk (by omega) ?_; conv => whnf))
 refine aend (iv (nxV L at_ n)) 1 [(0, srB L (nxA L at_))] [] [] ⟨rfl, rfl, rfl⟩ rfl ?_ ?_
 ·unfold nxA; rw [if_pos hlt]; repeat' (first | rfl | trivial | apply And.intro)
 ·unfold nxV; rw [List.getD_eq_getElem?_getD, List.getElem?_eq_getElem hlt]; exact rfl
theorem moreA (L : By) (at_ : Nat) : AFn Tryz.prog GS 27 [.ptr 0 0] 1 [(0, srB L at_)] (fun a m H => a = bv (decide (at_ < L.length)) ∧ m = 1 ∧ H = [(0, srB L at_)]) := by
 refine afn_of Tryz.func27 rfl mixed (by kernel_rfl) ?_
 conv => whnf
 (refine adraw pln27 [] (by kernel_rfl) ?_; conv => whnf)
 refine aend (bv (decide (at_ < L.length))) 1 [(0, srB L at_)] [] [] ⟨rfl, rfl, rfl⟩ rfl (by repeat' (first | rfl | trivial | apply And.intro)) ?_
 refine congrArg Value.bool ?_
 rw [List.length_map]
 exact decide_eq_decide.2 (by omega)
def expT : Tx := [[98, 108, 117, 101], [103, 114, 101, 101, 110], [102, 97, 115, 116], [115, 108, 111, 119]]
def namT : Tx := [[98, 117, 121], [118, 105, 115, 105, 116]]
theorem expTA : AFn Tryz.prog GS 29 [] 0 [] (Own1 9 1 (expT.map enT)) := by
 refine afn_of Tryz.func29 rfl mixed (by kernel_rfl) ?_
 conv => whnf
 exact aend (.own 0) 1 _ [(0, .lab 0)] [] ⟨rfl, rfl, rfl⟩ rfl (by repeat' (first | rfl | trivial | apply And.intro)) (by repeat' (first | rfl | trivial | apply And.intro))
theorem namTA : AFn Tryz.prog GS 30 [] 0 [] (Own1 9 1 (namT.map enT)) := by
 refine afn_of Tryz.func30 rfl mixed (by kernel_rfl) ?_
 conv => whnf
 exact aend (.own 0) 1 _ [(0, .lab 0)] [] ⟨rfl, rfl, rfl⟩ rfl (by repeat' (first | rfl | trivial | apply And.intro)) (by repeat' (first | rfl | trivial | apply And.intro))
end
end Go.Proofs.YtmhpfadbmpipkaaGreatDoor.Cl

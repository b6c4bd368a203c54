/- The walks of the reference's Count and begins, and what the heads of an encoding tell. Condition: sizes. The walk of the reference's decode. Condition: at most 100000 bytes. -/
import Derived.Test.YtmhpfadbmpipkaaGreatCl25
set_option linter.unusedVariables false
set_option linter.unusedSimpArgs false
namespace Go.Proofs.YtmhpfadbmpipkaaGreat.Cl
open Go Go.RowKit Go.Proofs Go.Proofs.YtmhpfadbmpipkaaGreat.Vc Go.Proofs.YtmhpfadbmpipkaaGreat.Ax
attribute [local irreducible] loadVar storeVar Instr.indexAt Instr.index Instr.sliceAt Instr.makeSlice Instr.lookup Instr.mapUpdate Instr.range Instr.next Instr.entry Instr.makeMap Builtin.append_ Builtin.copy_ Builtin.len_ Builtin.min_ Builtin.max_ Builtin.cap_ Builtin.delete_ Builtin.clear_ convert binOp eqGuard Op.unary Calls
set_option maxHeartbeats 8000000 in
set_option maxRecDepth 100000 in
theorem count2A (b : By) (j : Nat) (e most : Int) (hb : b.length ≤ 3000000) (hj : j ≤ b.length) (hmost : 0 ≤ most) : AFn Tryz.prog GC 30 [.ptr 0 0, iv most] 1 [(0, rd2 b j e)] (RdR2 (cnT (b.drop j) e most 5).1 b (j + (cnT (b.drop j) e most 5).2.1) (cnT (b.drop j) e most 5).2.2) := by
  have hN := number2A b j e hb hj
  have hz := (rnT_ok (b.drop j) e).2.2.2
  rw [cnT_def]
  generalize rnT (b.drop j) e = t at *
  obtain ⟨x, k, e'⟩ := t
  simp only at hN hz ⊢
  generalize j + k = j' at *
  by_cases he : e' = 0
  · subst he
    clear hz
    simp only [if_true]
    refine afn_of Tryz.func30 rfl mixed (by kernel_rfl) ?_
    conv => whnf
    refine acallM [0] [] (by kernel_rfl) hN rfl (by repeat' (first | rfl | trivial | apply And.intro)) (by repeat' (first | rfl | trivial | apply And.intro)) ?_
    rintro _ _ _ ⟨rfl, rfl, rfl⟩
    refine ⟨rfl, ?_⟩
    conv => whnf
    refine vif_split (fun h => ?_) (fun h => ?_)
    · have hx : x < 0 := by simpa using h
      conv => whnf
      refine acallM [0] [] (by kernel_rfl) (fail2A b j' 0 3) rfl (by repeat' (first | rfl | trivial | apply And.intro)) (by repeat' (first | rfl | trivial | apply And.intro)) ?_
      rintro _ _ _ ⟨rfl, rfl, rfl⟩
      refine ⟨rfl, ?_⟩
      conv => whnf
      exact aend (iv 0) 1 [(0, rd2 b j' 3)] [] [] (by rw [if_pos hx]; exact ⟨rfl, rfl, rfl⟩) rfl (by repeat' (first | rfl | trivial | apply And.intro)) (by repeat' (first | rfl | trivial | apply And.intro))
    have hx : ¬ x < 0 := by simpa using h
    conv => whnf
    refine vif_split (fun h => ?_) (fun h => ?_)
    · have hm : most < x := by simpa using h
      conv => whnf
      refine acallM [0] [] (by kernel_rfl) (fail2A b j' 0 5) rfl (by repeat' (first | rfl | trivial | apply And.intro)) (by repeat' (first | rfl | trivial | apply And.intro)) ?_
      rintro _ _ _ ⟨rfl, rfl, rfl⟩
      refine ⟨rfl, ?_⟩
      conv => whnf
      exact aend (iv 0) 1 [(0, rd2 b j' 5)] [] [] (by rw [if_neg hx, if_pos hm, if_neg (by decide)]; exact ⟨rfl, rfl, rfl⟩) rfl (by repeat' (first | rfl | trivial | apply And.intro)) (by repeat' (first | rfl | trivial | apply And.intro))
    have hm : ¬ most < x := by simpa using h
    conv => whnf
    exact aend (iv x) 1 [(0, rd2 b j' 0)] [] [] (by rw [if_neg hx, if_neg hm, if_pos rfl]; exact ⟨rfl, rfl, rfl⟩) rfl (by repeat' (first | rfl | trivial | apply And.intro)) (by repeat' (first | rfl | trivial | apply And.intro))
  · obtain ⟨rfl, rfl⟩ := hz he
    simp only [he, if_false]
    refine afn_of Tryz.func30 rfl mixed (by kernel_rfl) ?_
    conv => whnf
    refine acallM [0] [] (by kernel_rfl) hN rfl (by repeat' (first | rfl | trivial | apply And.intro)) (by repeat' (first | rfl | trivial | apply And.intro)) ?_
    rintro _ _ _ ⟨rfl, rfl, rfl⟩
    refine ⟨rfl, ?_⟩
    conv => whnf
    refine vif_split (fun h => ?_) (fun h => ?_)
    · exfalso; simp at h; exact he h
    conv => whnf
    refine vif_split (fun h => ?_) (fun h => ?_)
    · exfalso; simp at h; exact he h
    conv => whnf
    refine vif_split (fun h => ?_) (fun h => ?_)
    rotate_left 1
    · exfalso; simp at h; exact he h
    conv => whnf
    exact aend (iv 0) 1 [(0, rd2 b j' e')] [] [] ⟨rfl, rfl, rfl⟩ rfl (by repeat' (first | rfl | trivial | apply And.intro)) (by repeat' (first | rfl | trivial | apply And.intro))
set_option maxHeartbeats 4000000 in
set_option maxRecDepth 100000 in
theorem beginsA (b x : By) : AFn Tryz.prog GC 33 [bs b, bs x] 0 [] (Is (bv (decide (b.take x.length = x)))) := by
  refine afn_of Tryz.func33 rfl mixed (by kernel_rfl) ?_
  conv => whnf
  (refine adraw pln33 [] (by kernel_rfl) ?_; conv => whnf)
  refine vif_split (fun h => ?_) (fun h => ?_)
  · have hl : x.length ≤ b.length := by simp at h; omega
    conv => whnf
    repeat' (first
      | (refine ABd.mk' 0 x.length rfl (by rw [List.length_map]) (Nat.zero_le _) (by rw [List.length_map]; exact hl) ?_; rw [show cut none (some (AV.v (.int .i64 ((x.map enB).length : Nat)))) 0 x.length (b.map enB) = (b.take x.length).map enB from List.map_take.symm]; conv => whnf)
      | (refine ABy.of ?_; conv => whnf))
    refine aret [] (congrArg Value.bool ?_)
    exact sEq_by _ _
  · have hl : b.length < x.length := by simp at h; omega
    conv => whnf
    refine aret [] (congrArg Value.bool ?_)
    refine (decide_eq_false fun e => ?_).symm
    have := congrArg List.length e
    rw [List.length_take] at this
    omega
/-- what the heads tell -/
theorem gd_head2 (b : By) : Gd b fun l0 r => (cnT (b.drop (rnT b 0).2.1) (rnT b 0).2.2 512 5).2.2 = 0 ∧ ∃ k : Nat, 1 ≤ k ∧ k ≤ 5 ∧ (rnT b 0).1 = (k : Int) ∧ (cnT (b.drop (rnT b 0).2.1) (rnT b 0).2.2 512 5).1 = (l0.length : Int) ∧ b.drop ((rnT b 0).2.1 + (cnT (b.drop (rnT b 0).2.1) (rnT b 0).2.2 512 5).2.1) = bd k l0 ++ r := fun l0 r ha hl h => by
  have hform : ∃ k : Nat, 1 ≤ k ∧ k ≤ 5 ∧ ints l0 = num (k : Int) ++ (num (l0.length : Int) ++ bd k l0) := by
    by_cases h0 : l0 = []
    · subst h0; exact ⟨1, by omega, by omega, by decide⟩
    · obtain ⟨k, h1, h2, h3⟩ := ints_in h0
      exact ⟨k, h1, h2, by rw [h3]; unfold en; rw [List.append_assoc]⟩
  obtain ⟨k, k1, k2, he⟩ := hform
  have hb : b = num (k : Int) ++ (num (l0.length : Int) ++ (bd k l0 ++ r)) := by rw [h, he]; simp only [List.append_assoc]
  have r1 := rd1 (b := b) (e := 0) (z := num (l0.length : Int) ++ (bd k l0 ++ r)) (i64_nat (by omega : k ≤ 9223372036854775807)) rfl hb
  have r2 := rd1 (e := 0) (i64_nat (by omega : l0.length ≤ 9223372036854775807)) rfl (rfl : num (l0.length : Int) ++ (bd k l0 ++ r) = _)
  rw [← List.drop_drop, r1.1, r1.2.1, r1.2.2]
  rw [cnT_def]
  simp only
  rw [r2.1, r2.2.1, r2.2.2, if_pos rfl, if_neg (by omega), if_neg (by omega), if_pos rfl]
  exact ⟨rfl, k, k1, k2, rfl, rfl, rfl⟩
/-- what decode answers: a list, the error, and how many bytes are read -/
def DcA (b : By) (a : AV) (m : Nat) (H : AHeap) : Prop := ∃ (l : Li) (e : Int) (j : Nat), AllI l ∧ l.length ≤ 512 ∧ Gd b (fun l0 _ => e = 0 ∧ l = l0) ∧ a = li l ∧ m = 1 ∧ H = [(0, rd2 b j e)]
theorem cnT_le (b : By) (e most em : Int) : (cnT b e most em).2.1 ≤ b.length := (rnT_ok b e).2.1
theorem pr_bad {b0 : By} {n : Nat} {body : Li → By} {Q : Li → By → Prop} (h : Pr b0 n body fun _ _ => False) : Pr b0 n body Q := h.mono fun _ _ _ _ h => h.elim
end Go.Proofs.YtmhpfadbmpipkaaGreat.Cl

namespace Go.Proofs.YtmhpfadbmpipkaaGreat.Cl
open Go Go.RowKit Go.Proofs Go.Proofs.YtmhpfadbmpipkaaGreat.Vc Go.Proofs.YtmhpfadbmpipkaaGreat.Ax
attribute [local irreducible] loadVar storeVar Instr.indexAt Instr.index Instr.sliceAt Instr.makeSlice Instr.lookup Instr.mapUpdate Instr.range Instr.next Instr.entry Instr.makeMap Builtin.append_ Builtin.copy_ Builtin.len_ Builtin.min_ Builtin.max_ Builtin.cap_ Builtin.delete_ Builtin.clear_ convert binOp eqGuard Op.unary Calls
structure DX where
  j : Nat
  e : Int
  out : Li
theorem sm_snoc : ∀ (d : Li) (p x : Int), sm p (d ++ [x]) = sm p d ++ [w64 ((sm p d).getD (d.length - 1) p + x)] := by
  intro d
  induction d with
  | nil => intro p x; rfl
  | cons y r ih =>
    intro p x
    have := ih (w64 (p + y)) x
    show w64 (p + y) :: sm (w64 (p + y)) (r ++ [x]) = w64 (p + y) :: sm (w64 (p + y)) r ++ [_]
    rw [this, List.cons_append]
    congr 3
    cases r with
    | nil => rfl
    | cons z t =>
      have hl : (sm (w64 (p + y)) (z :: t)).length = t.length + 1 := by rw [sm_len]; rfl
      show w64 ((sm (w64 (p + y)) (z :: t)).getD t.length (w64 (p + y)) + x) = w64 ((w64 (p + y) :: sm (w64 (p + y)) (z :: t)).getD (t.length + 1) p + x)
      rw [List.getD_cons_succ, List.getD_eq_getElem?_getD, List.getD_eq_getElem?_getD, List.getElem?_eq_getElem (by omega)]
      rfl
theorem Gd.mono {b : By} {Q Q' : Li → By → Prop} (h : Gd b Q) (k : ∀ l0 r, AllI l0 → l0.length ≤ 512 → Q l0 r → Q' l0 r) : Gd b Q' := fun l0 r h1 h2 h3 => k l0 r h1 h2 (h l0 r h1 h2 h3)
theorem rn_le {b : By} {j : Nat} (e : Int) (h : j ≤ b.length) : j + (rnT (b.drop j) e).2.1 ≤ b.length := by
  have := (rnT_ok (b.drop j) e).2.1
  rw [List.length_drop] at this
  omega
set_option maxHeartbeats 32000000 in
set_option maxRecDepth 100000 in
theorem decodeA (b : By) (hb : b.length ≤ 100000) : AFn Tryz.prog GC 49 [.ptr 0 0] 1 [(0, rd2 b 0 0)] (DcA b) := by
  have hhead := gd_head2 b
  have hN := number2A b 0 0 (by omega) (Nat.zero_le _)
  rw [List.drop_zero, Nat.zero_add] at hN
  have hj1 : (rnT b 0).2.1 ≤ b.length := (rnT_ok b 0).2.1
  have hC := count2A b (rnT b 0).2.1 (rnT b 0).2.2 512 (by omega) hj1 (by decide)
  have hcr := cnT_rng (b.drop (rnT b 0).2.1) (rnT b 0).2.2 512 5 (by decide) (by decide)
  have hj0 : (rnT b 0).2.1 + (cnT (b.drop (rnT b 0).2.1) (rnT b 0).2.2 512 5).2.1 ≤ b.length := by
    have := cnT_le (b.drop (rnT b 0).2.1) (rnT b 0).2.2 512 5
    rw [List.length_drop] at this
    omega
  have hcr := And.intro hcr.1 hcr.2.1
  generalize hc : cnT (b.drop (rnT b 0).2.1) (rnT b 0).2.2 512 5 = t at *
  obtain ⟨nn, j2, e0⟩ := t
  simp only at hhead hC hcr hj0
  generalize (rnT b 0).1 = kind at *
  generalize (rnT b 0).2.2 = e1 at *
  generalize (rnT b 0).2.1 = j1 at *
  generalize hj : j1 + j2 = j0 at *
  clear hc
  obtain ⟨n, rfl⟩ : ∃ n : Nat, nn = (n : Int) := ⟨nn.toNat, by omega⟩
  have hn : n ≤ 512 := by omega
  have hlen : Gd b fun l0 _ => l0.length = n := hhead.mono fun l0 r _ _ ⟨_, k, _, _, _, h, _⟩ => by omega
  have hst : ∀ k : Nat, kind = (k : Int) → Gd b fun l0 r => l0.length = n ∧ e0 = 0 ∧ b.drop j0 = bd k l0 ++ r := fun k hk => hhead.mono fun l0 r _ _ ⟨h0, k', _, _, h3, h4, h5⟩ => by
    have : k' = k := by omega
    subst this
    exact ⟨by omega, h0, h5⟩
  refine afn_of Tryz.func49 rfl mixed (by kernel_rfl) ?_
  conv => whnf
  refine acallM [0] [] (by kernel_rfl) hN rfl (by repeat' (first | rfl | trivial | apply And.intro)) (by repeat' (first | rfl | trivial | apply And.intro)) ?_
  rintro _ _ _ ⟨rfl, rfl, rfl⟩
  refine ⟨rfl, ?_⟩
  conv => whnf
  refine acallM [0] [] (by kernel_rfl) hC rfl (by repeat' (first | rfl | trivial | apply And.intro)) (by repeat' (first | rfl | trivial | apply And.intro)) ?_
  rintro _ _ _ ⟨rfl, rfl, rfl⟩
  refine ⟨rfl, ?_⟩
  conv => whnf
  refine vif_split (fun hk1 => ?_) (fun hk1 => ?_)
  · have hst := hst 1 (by simpa using hk1)
    conv => whnf
    refine aloop ws49_1 2 [5, 6] (fun x : DX => [(5, .own 1), (6, iv x.out.length)]) (fun x => [(1, .rows 3 1 (x.out.map enI)), (0, rd2 b x.j x.e)]) (fun x => x.out.length ≤ n ∧ AllI x.out ∧ x.j ≤ b.length ∧ Gd b fun l0 r => l0.length = n ∧ Q1 (b.drop x.j) x.out x.e l0 r) (fun x => n - x.out.length) [(1, .nil)] [] ⟨j0, e0, []⟩ (by kernel_rfl) (fun _ => rfl) rfl ⟨Nat.zero_le _, AllI.nil, hj0, hst.mono fun l0 r _ _ ⟨h1, h2, h3⟩ => ⟨h1, h2, l0, rfl, h3⟩⟩ ⟨rfl, (by repeat' (first | rfl | trivial | apply And.intro)), trivial⟩ ⟨trivial, rfl, trivial⟩ ?_
    clear hst hhead hN hC hj0 hj
    rintro ⟨j, e, out⟩ ⟨h1, h2, h3, h4⟩
    change out.length ≤ n at h1
    change AllI out at h2
    change j ≤ b.length at h3
    change Gd b fun l0 r => l0.length = n ∧ Q1 (b.drop j) out e l0 r at h4
    conv => whnf
    refine vif_split (fun h => ?_) (fun h => ?_)
    · have hlt : out.length < n := by simp at h; omega
      conv => whnf
      refine acallM [0] [] (by kernel_rfl) (number2A b j e (by omega) h3) rfl (by repeat' (first | rfl | trivial | apply And.intro)) (by repeat' (first | rfl | trivial | apply And.intro)) ?_
      rintro _ _ _ ⟨rfl, rfl, rfl⟩
      refine ⟨rfl, ?_⟩
      conv => whnf
      refine VReq.mk (app_ok (by simp only [List.length_map, List.length_append, List.length_cons, List.length_nil]; omega) (by kernel_rfl)) ?_
      conv => whnf
      refine AAr.i64 (x := (out.length : Int) + 1) (by omega) ?_
      conv => whnf
      have hl2 : (out ++ [(rnT (b.drop j) e).1]).length = out.length + 1 := by simp
      refine aback ⟨j + (rnT (b.drop j) e).2.1, (rnT (b.drop j) e).2.2, out ++ [(rnT (b.drop j) e).1]⟩ [(1, .lab 3)] [] rfl (by show n - (out ++ [(rnT (b.drop j) e).1]).length < n - out.length; omega)
        ⟨by show (out ++ [(rnT (b.drop j) e).1]).length ≤ n; omega, h2.snoc (rnT_ok (b.drop j) e).1, rn_le e h3, h4.mono fun l0 r ha _ ⟨q1, q2⟩ => ⟨q1, by
          have := q2.step ha (by omega)
          rwa [List.drop_drop] at this⟩⟩ ⟨⟨rfl, rfl, (snocI out _).symm⟩, (by repeat' (first | rfl | trivial | apply And.intro)), trivial⟩ ⟨rfl, congrArg (Value.int .i64) (by rw [hl2]; rfl), trivial⟩
    · have hlt : out.length = n := by simp at h; omega
      conv => whnf
      exact aend (li out) 1 [(0, rd2 b j e)] [] [1] ⟨out, e, j, h2, by omega, h4.mono fun l0 r _ _ ⟨q1, q2⟩ => by
        have := q2.fin fun _ => by omega
        exact ⟨this.1, this.2.1⟩, rfl, rfl, rfl⟩ rfl (by repeat' (first | rfl | trivial | apply And.intro)) (by repeat' (first | rfl | trivial | apply And.intro))
  conv => whnf
  refine vif_split (fun hk2 => ?_) (fun hk2 => ?_)
  · have hst := hst 2 (by simpa using hk2)
    clear hlen
    conv => whnf
    refine aloop ws49_2 2 [5] (fun _ : DX => [(5, .own 1)]) (fun x => [(1, .rows 3 1 (x.out.map enI)), (0, rd2 b x.j x.e)]) (fun x => x.out.length ≤ n ∧ AllI x.out ∧ x.j ≤ b.length ∧ Gd b fun l0 r => l0.length = n ∧ Q2 (b.drop x.j) x.out x.e l0 r) (fun x => 2 * (n - x.out.length) + (if x.e = 0 then 1 else 0)) [(1, .nil)] [] ⟨j0, e0, []⟩ (by kernel_rfl) (fun _ => rfl) rfl ⟨Nat.zero_le _, AllI.nil, hj0, hst.mono fun l0 r _ _ ⟨h1, h2, h3⟩ => ⟨h1, h2, l0, rfl, h3⟩⟩ ⟨rfl, (by repeat' (first | rfl | trivial | apply And.intro)), trivial⟩ ⟨trivial, trivial⟩ ?_
    clear hst hhead hN hC hj0 hj
    rintro ⟨j, e, out⟩ ⟨h1, h2, h3, h4⟩
    change out.length ≤ n at h1
    change AllI out at h2
    change j ≤ b.length at h3
    change Gd b fun l0 r => l0.length = n ∧ Q2 (b.drop j) out e l0 r at h4
    conv => whnf
    refine vif_split (fun h => ?_) (fun h => ?_)
    rotate_left 1
    · have hlt : out.length = n := by simp at h; omega
      conv => whnf
      exact aend (li out) 1 [(0, rd2 b j e)] [] [1] ⟨out, e, j, h2, by omega, h4.mono fun l0 r _ _ ⟨q1, q2⟩ => ⟨q2.1, (q2.fin (by omega)).1⟩, rfl, rfl, rfl⟩ rfl (by repeat' (first | rfl | trivial | apply And.intro)) (by repeat' (first | rfl | trivial | apply And.intro))
    have hlt : out.length < n := by simp at h; omega
    conv => whnf
    refine vif_split (fun h => ?_) (fun h => ?_)
    rotate_left 1
    · have he : e ≠ 0 := by simpa using h
      conv => whnf
      exact aend (li out) 1 [(0, rd2 b j e)] [] [1] ⟨out, e, j, h2, by omega, h4.mono fun l0 r _ _ ⟨q1, q2⟩ => absurd q2.1 he, rfl, rfl, rfl⟩ rfl (by repeat' (first | rfl | trivial | apply And.intro)) (by repeat' (first | rfl | trivial | apply And.intro))
    have he : e = 0 := by simpa using h
    subst he
    have hA := number2A b j 0 (by omega) h3
    have hj1 := rn_le 0 h3
    have hB := number2A b (j + (rnT (b.drop j) 0).2.1) (rnT (b.drop j) 0).2.2 (by omega) hj1
    have hj2 := rn_le (rnT (b.drop j) 0).2.2 hj1
    have hx := (rnT_ok (b.drop j) 0).1
    have hz := (rnT_ok (b.drop (j + (rnT (b.drop j) 0).2.1)) (rnT (b.drop j) 0).2.2).2.2.2
    have step : Gd b fun l0 r => ∃ m : Nat, (rnT (b.drop (j + (rnT (b.drop j) 0).2.1)) (rnT (b.drop j) 0).2.2).2.2 = 0 ∧ (rnT (b.drop (j + (rnT (b.drop j) 0).2.1)) (rnT (b.drop j) 0).2.2).1 = ((m + 1 : Nat) : Int) ∧ m + 1 + out.length ≤ n ∧ l0.length = n ∧
        Q2 (b.drop (j + (rnT (b.drop j) 0).2.1 + (rnT (b.drop (j + (rnT (b.drop j) 0).2.1)) (rnT (b.drop j) 0).2.2).2.1)) (out ++ List.replicate (m + 1) (rnT (b.drop j) 0).1) 0 l0 r := h4.mono fun l0 r ha hl ⟨q1, q2⟩ => by
      obtain ⟨m, m1, m2, m3, m4⟩ := q2.step ha (by omega) (by omega)
      simp only [List.drop_drop] at m1 m2 m4
      exact ⟨m, m1, m2, by omega, q1, m4⟩
    generalize hq : rnT (b.drop (j + (rnT (b.drop j) 0).2.1)) (rnT (b.drop j) 0).2.2 = t at *
    obtain ⟨kk, jj, e2⟩ := t
    simp only at step hB hj2 hz
    clear hq
    generalize (rnT (b.drop j) 0).1 = x at *
    generalize (rnT (b.drop j) 0).2.2 = e1 at *
    generalize j + (rnT (b.drop j) 0).2.1 = j1 at *
    generalize j1 + jj = j2 at *
    conv => whnf
    refine acallM [0] [] (by kernel_rfl) hA rfl (by repeat' (first | rfl | trivial | apply And.intro)) (by repeat' (first | rfl | trivial | apply And.intro)) ?_
    rintro _ _ _ ⟨rfl, rfl, rfl⟩
    refine ⟨rfl, ?_⟩
    conv => whnf
    refine acallM [0] [] (by kernel_rfl) hB rfl (by repeat' (first | rfl | trivial | apply And.intro)) (by repeat' (first | rfl | trivial | apply And.intro)) ?_
    rintro _ _ _ ⟨rfl, rfl, rfl⟩
    refine ⟨rfl, ?_⟩
    conv => whnf
    refine vif_split (fun h => ?_) (fun h => ?_)
    · have hk : kk < 1 := by simpa using h
      have hbad : ∀ {l0 r}, ¬ ∃ m : Nat, e2 = 0 ∧ kk = ((m + 1 : Nat) : Int) ∧ m + 1 + out.length ≤ n ∧ l0.length = n ∧ Q2 (b.drop j2) (out ++ List.replicate (m + 1) x) 0 l0 r := by
        rintro l0 r ⟨m, _, m2, _⟩; omega
      conv => whnf
      refine acallM [0] [] (by kernel_rfl) (fail2A b j2 e2 1) rfl (by repeat' (first | rfl | trivial | apply And.intro)) (by repeat' (first | rfl | trivial | apply And.intro)) ?_
      rintro _ _ _ ⟨rfl, rfl, rfl⟩
      refine ⟨rfl, ?_⟩
      · skip
        have hx2 : (if e2 = 0 then (1 : Int) else e2) ≠ 0 := by split <;> omega
        generalize (if e2 = 0 then (1 : Int) else e2) = e3 at *
        conv => whnf
        refine aloop ws49_3 3 [5, 9] (fun i : Nat => [(5, .own 2), (9, iv i)]) (fun _ => [(2, .rows 3 1 (out.map enI)), (0, rd2 b j2 e3)]) (fun i => i = 0) (fun _ => 0) [(2, .lab 1)] [] 0 (by kernel_rfl) (fun _ => rfl) rfl rfl ⟨⟨rfl, rfl, rfl⟩, (by repeat' (first | rfl | trivial | apply And.intro)), trivial⟩ ⟨rfl, rfl, trivial⟩ ?_
        rintro _ rfl
        conv => whnf
        refine vif_split (fun h => ?_) (fun h => ?_)
        · conv => whnf
          refine vif_split (fun h => ?_) (fun h => ?_)
          · exfalso; simp at h; exact hx2 h
          conv => whnf
          exact aback ⟨j2, e3, out⟩ [(1, .lab 2)] [] rfl (by show 2 * (n - out.length) + (if e3 = 0 then 1 else 0) < 2 * (n - out.length) + (if (0 : Int) = 0 then 1 else 0); rw [if_neg hx2, if_pos rfl]; omega) ⟨h1, h2, hj2, fun l0 r ha hl h => absurd (step l0 r ha hl h) hbad⟩ ⟨⟨rfl, rfl, rfl⟩, (by repeat' (first | rfl | trivial | apply And.intro)), trivial⟩ ⟨rfl, trivial⟩
        · conv => whnf
          exact aback ⟨j2, e3, out⟩ [(1, .lab 2)] [] rfl (by show 2 * (n - out.length) + (if e3 = 0 then 1 else 0) < 2 * (n - out.length) + (if (0 : Int) = 0 then 1 else 0); rw [if_neg hx2, if_pos rfl]; omega) ⟨h1, h2, hj2, fun l0 r ha hl h => absurd (step l0 r ha hl h) hbad⟩ ⟨⟨rfl, rfl, rfl⟩, (by repeat' (first | rfl | trivial | apply And.intro)), trivial⟩ ⟨rfl, trivial⟩
    have hk : 1 ≤ kk := by simp at h; omega
    conv => whnf
    refine AAr.to (y := (n : Int) - (out.length : Int)) (by rw [List.length_map]; exact IntWalk.i64_in _ (by show _ ≤ (n : Int) - (out.length : Int) ∧ (n : Int) - (out.length : Int) ≤ _; omega)) ?_
    conv => whnf
    refine vif_split (fun h => ?_) (fun h => ?_)
    · have hk2 : (n : Int) - (out.length : Int) < kk := by simp at h; omega
      have hbad : ∀ {l0 r}, ¬ ∃ m : Nat, e2 = 0 ∧ kk = ((m + 1 : Nat) : Int) ∧ m + 1 + out.length ≤ n ∧ l0.length = n ∧ Q2 (b.drop j2) (out ++ List.replicate (m + 1) x) 0 l0 r := by
        rintro l0 r ⟨m, _, m2, m3, _⟩; omega
      conv => whnf
      refine acallM [0] [] (by kernel_rfl) (fail2A b j2 e2 1) rfl (by repeat' (first | rfl | trivial | apply And.intro)) (by repeat' (first | rfl | trivial | apply And.intro)) ?_
      rintro _ _ _ ⟨rfl, rfl, rfl⟩
      refine ⟨rfl, ?_⟩
      · skip
        have hx2 : (if e2 = 0 then (1 : Int) else e2) ≠ 0 := by split <;> omega
        generalize (if e2 = 0 then (1 : Int) else e2) = e3 at *
        conv => whnf
        refine aloop ws49_3 3 [5, 9] (fun i : Nat => [(5, .own 2), (9, iv i)]) (fun _ => [(2, .rows 3 1 (out.map enI)), (0, rd2 b j2 e3)]) (fun i => i = 0) (fun _ => 0) [(2, .lab 1)] [] 0 (by kernel_rfl) (fun _ => rfl) rfl rfl ⟨⟨rfl, rfl, rfl⟩, (by repeat' (first | rfl | trivial | apply And.intro)), trivial⟩ ⟨rfl, rfl, trivial⟩ ?_
        rintro _ rfl
        conv => whnf
        refine vif_split (fun h => ?_) (fun h => ?_)
        · conv => whnf
          refine vif_split (fun h => ?_) (fun h => ?_)
          · exfalso; simp at h; exact hx2 h
          conv => whnf
          exact aback ⟨j2, e3, out⟩ [(1, .lab 2)] [] rfl (by show 2 * (n - out.length) + (if e3 = 0 then 1 else 0) < 2 * (n - out.length) + (if (0 : Int) = 0 then 1 else 0); rw [if_neg hx2, if_pos rfl]; omega) ⟨h1, h2, hj2, fun l0 r ha hl h => absurd (step l0 r ha hl h) hbad⟩ ⟨⟨rfl, rfl, rfl⟩, (by repeat' (first | rfl | trivial | apply And.intro)), trivial⟩ ⟨rfl, trivial⟩
        · conv => whnf
          exact aback ⟨j2, e3, out⟩ [(1, .lab 2)] [] rfl (by show 2 * (n - out.length) + (if e3 = 0 then 1 else 0) < 2 * (n - out.length) + (if (0 : Int) = 0 then 1 else 0); rw [if_neg hx2, if_pos rfl]; omega) ⟨h1, h2, hj2, fun l0 r ha hl h => absurd (step l0 r ha hl h) hbad⟩ ⟨⟨rfl, rfl, rfl⟩, (by repeat' (first | rfl | trivial | apply And.intro)), trivial⟩ ⟨rfl, trivial⟩
    have hk2 : kk ≤ (n : Int) - (out.length : Int) := by simp at h; omega
    have he2 : e2 = 0 := by
      rcases Classical.em (e2 = 0) with h | h
      · exact h
      · have := (hz h).1; omega
    subst he2
    obtain ⟨k, rfl⟩ : ∃ k : Nat, kk = (k : Int) := ⟨kk.toNat, by omega⟩
    conv => whnf
    refine aloop ws49_3 3 [5, 9] (fun i : Nat => [(5, .own 2), (9, iv i)]) (fun i => [(2, .rows 3 1 ((out ++ List.replicate i x).map enI)), (0, rd2 b j2 0)]) (fun i => i ≤ k) (fun i => k - i) [(2, .lab 1)] [] 0 (by kernel_rfl) (fun _ => rfl) rfl (Nat.zero_le _) ⟨⟨rfl, rfl, by rw [List.replicate_zero, List.append_nil]⟩, (by repeat' (first | rfl | trivial | apply And.intro)), trivial⟩ ⟨rfl, rfl, trivial⟩ ?_
    rintro i hi
    conv => whnf
    refine vif_split (fun h => ?_) (fun h => ?_)
    · have hik : i < k := by simp at h; omega
      conv => whnf
      refine VReq.mk (app_ok (by simp only [List.length_map, List.length_append, List.length_replicate, List.length_cons, List.length_nil]; omega) (by kernel_rfl)) ?_
      conv => whnf
      refine AAr.i64 (x := (i : Int) + 1) (by omega) ?_
      conv => whnf
      refine aback (i + 1) [(2, .lab 4)] [] rfl (by show k - (i + 1) < k - i; omega) hik ⟨⟨rfl, rfl, ?_⟩, (by repeat' (first | rfl | trivial | apply And.intro)), trivial⟩ ⟨rfl, rfl, trivial⟩
      rw [List.replicate_succ', ← List.append_assoc]
      exact (snocI _ _).symm
    · have hik : i = k := by simp at h; omega
      subst hik
      conv => whnf
      refine aback ⟨j2, 0, out ++ List.replicate i x⟩ [(1, .lab 2)] [] rfl (by show 2 * (n - (out ++ List.replicate i x).length) + (if (0 : Int) = 0 then 1 else 0) < 2 * (n - out.length) + (if (0 : Int) = 0 then 1 else 0); rw [List.length_append, List.length_replicate]; omega)
        ⟨by show (out ++ List.replicate i x).length ≤ n; rw [List.length_append, List.length_replicate]; omega, h2.app (AllI.rep hx i), hj2, step.mono fun l0 r _ _ ⟨m, m1, m2, m3, m4, m5⟩ => ⟨m4, by
          have : m + 1 = i := by omega
          rw [this] at m5
          exact m5⟩⟩ ⟨⟨rfl, rfl, rfl⟩, (by repeat' (first | rfl | trivial | apply And.intro)), trivial⟩ ⟨rfl, trivial⟩
  conv => whnf
  refine vif_split (fun hk3 => ?_) (fun hk3 => ?_)
  · have hst := hst 3 (by simpa using hk3)
    conv => whnf
    refine aloop ws49_4 2 [5, 10] (fun x : DX => [(5, .own 1), (10, iv x.out.length)]) (fun x => [(1, .rows 3 1 ((sm 0 x.out).map enI)), (0, rd2 b x.j x.e)]) (fun x => x.out.length ≤ n ∧ AllI x.out ∧ x.j ≤ b.length ∧ Gd b fun l0 r => l0.length = n ∧ Q1 (b.drop x.j) x.out x.e (dl 0 l0) r) (fun x => n - x.out.length) [(1, .nil)] [] ⟨j0, e0, []⟩ (by kernel_rfl) (fun _ => rfl) rfl ⟨Nat.zero_le _, AllI.nil, hj0, hst.mono fun l0 r _ _ ⟨h1, h2, h3⟩ => ⟨h1, h2, dl 0 l0, rfl, by rw [h3, ← st_dl]; rfl⟩⟩ ⟨rfl, (by repeat' (first | rfl | trivial | apply And.intro)), trivial⟩ ⟨trivial, rfl, trivial⟩ ?_
    clear hst hhead hN hC hj0 hj
    rintro ⟨j, e, d⟩ ⟨h1, h2, h3, h4⟩
    change d.length ≤ n at h1
    change AllI d at h2
    change j ≤ b.length at h3
    change Gd b fun l0 r => l0.length = n ∧ Q1 (b.drop j) d e (dl 0 l0) r at h4
    have hsl := sm_len d 0
    conv => whnf
    refine vif_split (fun h => ?_) (fun h => ?_)
    rotate_left 1
    · have hlt : d.length = n := by simp at h; omega
      conv => whnf
      exact aend (li (sm 0 d)) 1 [(0, rd2 b j e)] [] [1] ⟨sm 0 d, e, j, sm_all d 0, by omega, h4.mono fun l0 r ha _ ⟨q1, q2⟩ => by
        have := q2.fin fun _ => by rw [dl_len]; omega
        exact ⟨this.1, by rw [this.2.1, sm_dl l0 0 ha]⟩, rfl, rfl, rfl⟩ rfl (by repeat' (first | rfl | trivial | apply And.intro)) (by repeat' (first | rfl | trivial | apply And.intro))
    have hlt : d.length < n := by simp at h; omega
    have hxi := (rnT_ok (b.drop j) e).1
    have hnext : Gd b fun l0 r => l0.length = n ∧ Q1 (b.drop (j + (rnT (b.drop j) e).2.1)) (d ++ [(rnT (b.drop j) e).1]) (rnT (b.drop j) e).2.2 (dl 0 l0) r := h4.mono fun l0 r ha _ ⟨q1, q2⟩ => ⟨q1, by
      have := q2.step (dl_all l0 0) (by rw [dl_len]; omega)
      rwa [List.drop_drop] at this⟩
    have hnum := number2A b j e (by omega) h3
    have hjn := rn_le e h3
    generalize (rnT (b.drop j) e).1 = x at *
    generalize (rnT (b.drop j) e).2.2 = e' at *
    generalize j + (rnT (b.drop j) e).2.1 = j' at *
    have hl2 : (d ++ [x]).length = d.length + 1 := by simp
    have hsn := sm_snoc d 0 x
    conv => whnf
    refine acallM [0] [] (by kernel_rfl) hnum rfl (by repeat' (first | rfl | trivial | apply And.intro)) (by repeat' (first | rfl | trivial | apply And.intro)) ?_
    rintro _ _ _ ⟨rfl, rfl, rfl⟩
    refine ⟨rfl, ?_⟩
    conv => whnf
    refine vif_split (fun h => ?_) (fun h => ?_)
    · have hi0 : 0 < d.length := by simp at h; omega
      have hat : (sm 0 d)[d.length - 1]? = some ((sm 0 d).getD (d.length - 1) 0) := by
        rw [List.getD_eq_getElem?_getD, List.getElem?_eq_getElem (by omega)]; rfl
      generalize (sm 0 d).getD (d.length - 1) 0 = y at *
      conv => whnf
      refine AAr.to rfl ?_
      conv => whnf
      refine AAr.i64 (x := (d.length : Int) - 1) (by omega) ?_
      conv => whnf
      refine AIn.mk' (d.length - 1) (by show (d.length : Int) - 1 = _; omega) (by rw [List.length_map]; show _ < (sm 0 d).length; omega) ?_
      conv => whnf
      refine ARd.mapAt hat ?_
      conv => whnf
      refine AAr.to rfl ?_
      conv => whnf
      refine AAr.to rfl ?_
      conv => whnf
      refine AAr.to (add_u _ _) ?_
      conv => whnf
      refine VReq.mk (app_ok (by simp only [List.length_map, List.length_append, List.length_cons, List.length_nil]; omega) (by kernel_rfl)) ?_
      conv => whnf
      refine AAr.i64 (x := (d.length : Int) + 1) (by omega) ?_
      conv => whnf
      refine aback ⟨j', e', d ++ [x]⟩ [(1, .lab 3)] [] rfl (by show n - (d ++ [x]).length < n - d.length; omega) ⟨by show (d ++ [x]).length ≤ n; omega, h2.snoc hxi, hjn, hnext⟩ ⟨⟨rfl, rfl, by rw [hsn, Int.add_comm]; exact (snocI _ _).symm⟩, (by repeat' (first | rfl | trivial | apply And.intro)), trivial⟩ ⟨rfl, congrArg (Value.int .i64) (by rw [hl2]; rfl), trivial⟩
    · have hi0 : d = [] := List.eq_nil_of_length_eq_zero (by simp at h; simp [h])
      subst hi0
      conv => whnf
      refine VReq.mk (app_ok (by simp [sm]) (by kernel_rfl)) ?_
      conv => whnf
      refine AAr.i64 (x := (0 : Int) + 1) (by decide) ?_
      conv => whnf
      refine aback ⟨j', e', [] ++ [x]⟩ [(1, .lab 3)] [] rfl (by show n - 1 < n - 0; simp at hlt; omega) ⟨by show 1 ≤ n; simp at hlt; omega, h2.snoc hxi, hjn, hnext⟩ ⟨⟨rfl, rfl, by
        have e : w64 (0 + x) = x := by rw [Int.zero_add]; exact w64_id hxi
        show _ = (sm 0 [x]).map enI
        simp only [sm, e]; rfl⟩, (by repeat' (first | rfl | trivial | apply And.intro)), trivial⟩ ⟨rfl, rfl, trivial⟩
  conv => whnf
  refine vif_split (fun hk4 => ?_) (fun hk4 => ?_)
  · have hst := hst 4 (by simpa using hk4)
    have hC4 := count2A b j0 e0 512 (by omega) hj0 (by decide)
    have hm := cnT_rng (b.drop j0) e0 512 5 (by decide) (by decide)
    have hm := And.intro hm.1 hm.2.1
    have hj3 : j0 + (cnT (b.drop j0) e0 512 5).2.1 ≤ b.length := by
      have := cnT_le (b.drop j0) e0 512 5
      rw [List.length_drop] at this
      omega
    have hq : Gd b fun l0 r => l0.length = n ∧ Q4k (cnT (b.drop j0) e0 512 5).1 (b.drop (j0 + (cnT (b.drop j0) e0 512 5).2.1)) [] (cnT (b.drop j0) e0 512 5).2.2 l0 r := hst.mono fun l0 r ha _ ⟨h1, h2, h3⟩ => ⟨h1, by
      have := (Q4k.start (b := b.drop j0) hn (most := 512) (em := 5) (by omega)) l0 r ha h1 h3
      rw [h2, ← List.drop_drop]
      exact this.2⟩
    generalize hc4 : cnT (b.drop j0) e0 512 5 = t at *
    obtain ⟨mm, jj, e3⟩ := t
    simp only at hC4 hm hj3 hq
    generalize j0 + jj = j3 at *
    clear hc4
    obtain ⟨m, rfl⟩ : ∃ m : Nat, mm = (m : Int) := ⟨mm.toNat, by omega⟩
    have hm5 : m ≤ 512 := by omega
    clear hst hhead hN hC hj0 hj
    conv => whnf
    refine acallM [0] [] (by kernel_rfl) hC4 rfl (by repeat' (first | rfl | trivial | apply And.intro)) (by repeat' (first | rfl | trivial | apply And.intro)) ?_
    rintro _ _ _ ⟨rfl, rfl, rfl⟩
    refine ⟨rfl, ?_⟩
    conv => whnf
    refine aloop ws49_5 2 [12, 14] (fun x : DX => [(12, .own 1), (14, iv x.out.length)]) (fun x => [(1, .rows 3 1 (x.out.map enI)), (0, rd2 b x.j x.e)]) (fun x => x.out.length ≤ m ∧ AllI x.out ∧ x.j ≤ b.length ∧ Gd b fun l0 r => l0.length = n ∧ Q4k m (b.drop x.j) x.out x.e l0 r) (fun x => m - x.out.length) [(1, .nil)] [] ⟨j3, e3, []⟩ (by kernel_rfl) (fun _ => rfl) rfl ⟨Nat.zero_le _, AllI.nil, hj3, hq⟩ ⟨rfl, (by repeat' (first | rfl | trivial | apply And.intro)), trivial⟩ ⟨trivial, rfl, trivial⟩ ?_
    clear hq hC4 hj3
    rintro ⟨j, e, keys⟩ ⟨h1, h2, h3, h4⟩
    change keys.length ≤ m at h1
    change AllI keys at h2
    change j ≤ b.length at h3
    change Gd b fun l0 r => l0.length = n ∧ Q4k m (b.drop j) keys e l0 r at h4
    conv => whnf
    refine vif_split (fun h => ?_) (fun h => ?_)
    · have hlt : keys.length < m := by simp at h; omega
      conv => whnf
      refine acallM [0] [] (by kernel_rfl) (number2A b j e (by omega) h3) rfl (by repeat' (first | rfl | trivial | apply And.intro)) (by repeat' (first | rfl | trivial | apply And.intro)) ?_
      rintro _ _ _ ⟨rfl, rfl, rfl⟩
      refine ⟨rfl, ?_⟩
      conv => whnf
      refine VReq.mk (app_ok (by simp only [List.length_map, List.length_append, List.length_cons, List.length_nil]; omega) (by kernel_rfl)) ?_
      conv => whnf
      refine AAr.i64 (x := (keys.length : Int) + 1) (by omega) ?_
      conv => whnf
      have hl2 : (keys ++ [(rnT (b.drop j) e).1]).length = keys.length + 1 := by simp
      refine aback ⟨j + (rnT (b.drop j) e).2.1, (rnT (b.drop j) e).2.2, keys ++ [(rnT (b.drop j) e).1]⟩ [(1, .lab 3)] [] rfl (by show m - (keys ++ [(rnT (b.drop j) e).1]).length < m - keys.length; omega)
        ⟨by show (keys ++ [(rnT (b.drop j) e).1]).length ≤ m; omega, h2.snoc (rnT_ok (b.drop j) e).1, rn_le e h3, h4.mono fun l0 r ha _ ⟨q1, q2⟩ => ⟨q1, q2.1, by
          have hd := q2.1
          have := q2.2.step (fun y hy => ha y ((ds_mem l0 y).1 hy)) (by omega)
          rwa [List.drop_drop] at this⟩⟩ ⟨⟨rfl, rfl, (snocI keys _).symm⟩, (by repeat' (first | rfl | trivial | apply And.intro)), trivial⟩ ⟨rfl, congrArg (Value.int .i64) (by rw [hl2]; rfl), trivial⟩
    have hkm : keys.length = m := by simp at h; omega
    conv => whnf
    refine aloop ws49_6 3 [5, 15] (fun x : DX => [(5, .own 2), (15, iv x.out.length)]) (fun x => [(2, .rows 3 1 (x.out.map enI)), (1, .rows 3 1 (keys.map enI)), (0, rd2 b x.j x.e)]) (fun x => x.out.length ≤ n ∧ AllI x.out ∧ x.j ≤ b.length ∧ Gd b fun l0 r => l0.length = n ∧ Q4 keys (b.drop x.j) x.out x.e l0 r) (fun x => n - x.out.length) [(2, .nil)] [] ⟨j, e, []⟩ (by kernel_rfl) (fun _ => rfl) rfl ⟨Nat.zero_le _, AllI.nil, h3, h4.mono fun l0 r _ _ ⟨q1, q2⟩ => ⟨q1, Q4.start (fun _ => by rw [hkm]) q2⟩⟩ ⟨rfl, ⟨rfl, rfl, rfl⟩, (by repeat' (first | rfl | trivial | apply And.intro)), trivial⟩ ⟨trivial, rfl, trivial⟩ ?_
    clear h1 h3 h4
    rintro ⟨j, e, out⟩ ⟨h1, h5, h3, h4⟩
    change out.length ≤ n at h1
    change AllI out at h5
    change j ≤ b.length at h3
    change Gd b fun l0 r => l0.length = n ∧ Q4 keys (b.drop j) out e l0 r at h4
    conv => whnf
    refine vif_split (fun h => ?_) (fun h => ?_)
    rotate_left 1
    · have hlt : out.length = n := by simp at h; omega
      conv => whnf
      exact aend (li out) 1 [(0, rd2 b j e)] [] [2] ⟨out, e, j, h5, by omega, h4.mono fun l0 r _ _ ⟨q1, q2⟩ => ⟨q2.2.1, (q2.fin (by omega)).1⟩, rfl, rfl, rfl⟩ rfl (by repeat' (first | rfl | trivial | apply And.intro)) (by repeat' (first | rfl | trivial | apply And.intro))
    have hlt : out.length < n := by simp at h; omega
    conv => whnf
    refine vif_split (fun h => ?_) (fun h => ?_)
    rotate_left 1
    · have he : e ≠ 0 := by simpa using h
      conv => whnf
      exact aend (li out) 1 [(0, rd2 b j e)] [] [2] ⟨out, e, j, h5, by omega, h4.mono fun l0 r _ _ ⟨q1, q2⟩ => absurd q2.2.1 he, rfl, rfl, rfl⟩ rfl (by repeat' (first | rfl | trivial | apply And.intro)) (by repeat' (first | rfl | trivial | apply And.intro))
    have step : Gd b fun l0 r => ∃ (i : Nat) (x : Int), (rnT (b.drop j) e).2.2 = 0 ∧ (rnT (b.drop j) e).1 = (i : Int) ∧ keys[i]? = some x ∧ l0.length = n ∧ Q4 keys (b.drop (j + (rnT (b.drop j) e).2.1)) (out ++ [x]) 0 l0 r := h4.mono fun l0 r ha hl ⟨q1, q2⟩ => by
      obtain ⟨i, x, m1, m2, m3, m4⟩ := q2.step hl (by omega)
      rw [List.drop_drop] at m4
      exact ⟨i, x, m1, m2, m3, q1, m4⟩
    have hnum := number2A b j e (by omega) h3
    have hjn := rn_le e h3
    generalize rnT (b.drop j) e = t at *
    obtain ⟨ii, jj, e2⟩ := t
    simp only at step hnum hjn
    generalize j + jj = j' at *
    conv => whnf
    refine acallM [0] [] (by kernel_rfl) hnum rfl (by repeat' (first | rfl | trivial | apply And.intro)) (by repeat' (first | rfl | trivial | apply And.intro)) ?_
    rintro _ _ _ ⟨rfl, rfl, rfl⟩
    refine ⟨rfl, ?_⟩
    conv => whnf
    have bad : (¬ (0 ≤ ii ∧ ii < (keys.length : Int))) → Gd b fun l0 _ => (if e2 = 0 then (1 : Int) else e2) = 0 ∧ out = l0 := fun hbad => step.mono fun l0 r _ _ ⟨i, x, m1, m2, m3, _⟩ => by
      have := (List.getElem?_eq_some_iff.1 m3).1
      exact absurd ⟨by omega, by omega⟩ hbad
    refine vif_split (fun h => ?_) (fun h => ?_)
    · have hk : ii < 0 := by simpa using h
      conv => whnf
      refine acallM [0] [] (by kernel_rfl) (fail2A b j' e2 1) rfl (by repeat' (first | rfl | trivial | apply And.intro)) (by repeat' (first | rfl | trivial | apply And.intro)) ?_
      rintro _ _ _ ⟨rfl, rfl, rfl⟩
      refine ⟨rfl, ?_⟩
      conv => whnf
      exact aend (li out) 1 [(0, rd2 b j' (if e2 = 0 then 1 else e2))] [] [2] ⟨out, _, j', h5, by omega, bad fun h => by omega, rfl, rfl, rfl⟩ rfl (by repeat' (first | rfl | trivial | apply And.intro)) (by repeat' (first | rfl | trivial | apply And.intro))
    have hk : 0 ≤ ii := by simp at h; omega
    conv => whnf
    refine vif_split (fun h => ?_) (fun h => ?_)
    · have hk2 : (keys.length : Int) ≤ ii := by simp at h; omega
      conv => whnf
      refine acallM [0] [] (by kernel_rfl) (fail2A b j' e2 1) rfl (by repeat' (first | rfl | trivial | apply And.intro)) (by repeat' (first | rfl | trivial | apply And.intro)) ?_
      rintro _ _ _ ⟨rfl, rfl, rfl⟩
      refine ⟨rfl, ?_⟩
      conv => whnf
      exact aend (li out) 1 [(0, rd2 b j' (if e2 = 0 then 1 else e2))] [] [2] ⟨out, _, j', h5, by omega, bad fun h => by omega, rfl, rfl, rfl⟩ rfl (by repeat' (first | rfl | trivial | apply And.intro)) (by repeat' (first | rfl | trivial | apply And.intro))
    have hk2 : ii < (keys.length : Int) := by simp at h; omega
    obtain ⟨i, rfl⟩ : ∃ i : Nat, ii = (i : Int) := ⟨ii.toNat, by omega⟩
    have hil : i < keys.length := by omega
    conv => whnf
    refine AIn.mk' i rfl (by rw [List.length_map]; exact hil) ?_
    conv => whnf
    refine ARd.map hil ?_
    conv => whnf
    refine VReq.mk (app_ok (by simp only [List.length_map, List.length_append, List.length_cons, List.length_nil]; omega) (by kernel_rfl)) ?_
    conv => whnf
    refine AAr.i64 (x := (out.length : Int) + 1) (by omega) ?_
    conv => whnf
    have hl2 : (out ++ [keys[i]]).length = out.length + 1 := by simp
    refine aback ⟨j', e2, out ++ [keys[i]]⟩ [(2, .lab 4)] [] rfl (by show n - (out ++ [keys[i]]).length < n - out.length; omega)
      ⟨by show (out ++ [keys[i]]).length ≤ n; omega, h5.snoc (h2 _ (List.getElem_mem hil)), hjn, step.mono fun l0 r _ _ ⟨i', x, m1, m2, m3, m4, m5⟩ => ⟨m4, by
        have : i' = i := by omega
        subst this
        rw [List.getElem?_eq_getElem hil] at m3
        injection m3 with m3
        rw [m3, m1]
        exact m5⟩⟩ ⟨⟨rfl, rfl, (snocI out _).symm⟩, ⟨rfl, rfl, rfl⟩, (by repeat' (first | rfl | trivial | apply And.intro)), trivial⟩ ⟨rfl, congrArg (Value.int .i64) (by rw [hl2]; rfl), trivial⟩
  conv => whnf
  refine vif_split (fun hk5 => ?_) (fun hk5 => ?_)
  · have hst := hst 5 (by simpa using hk5)
    have hA := number2A b j0 e0 (by omega) hj0
    have hj1 := rn_le e0 hj0
    have hB := number2A b (j0 + (rnT (b.drop j0) e0).2.1) (rnT (b.drop j0) e0).2.2 (by omega) hj1
    have hj2 := rn_le (rnT (b.drop j0) e0).2.2 hj1
    have hli := (rnT_ok (b.drop j0) e0).1
    have key : Gd b fun l0 r => l0.length = n ∧ (rnT (b.drop (j0 + (rnT (b.drop j0) e0).2.1)) (rnT (b.drop j0) e0).2.2).2.2 = 0 ∧ ∃ wn : Nat, (rnT (b.drop (j0 + (rnT (b.drop j0) e0).2.1)) (rnT (b.drop j0) e0).2.2).1 = (wn : Int) ∧ wn ≤ 64 ∧
        Q5 (rnT (b.drop j0) e0).1 wn (b.drop (j0 + (rnT (b.drop j0) e0).2.1 + (rnT (b.drop (j0 + (rnT (b.drop j0) e0).2.1)) (rnT (b.drop j0) e0).2.2).2.1)) l0 r := hst.mono fun l0 r ha _ ⟨q1, q2, q3⟩ => by
      have hlw := wd_le l0 ha
      have hlo : I64 (lo l0) := by
        cases l0 with
        | nil => show I64 0; unfold I64; omega
        | cons x t => exact ha _ (lo_le (l := x :: t) (x := x) List.mem_cons_self).2
      have r1 := rd1 (b := b.drop j0) (e := e0) (z := num (wd l0 : Int) ++ (pk (bitA (lo l0) (wd l0) l0) (sz5 l0.length (wd l0)) (l0.length * wd l0) ++ r)) hlo q2 (by rw [q3]; show b5 l0 ++ r = _; unfold b5; simp only [List.append_assoc])
      have r2 := rd1 (b := b.drop (j0 + (rnT (b.drop j0) e0).2.1)) (e := (rnT (b.drop j0) e0).2.2) (i64_nat (by omega : wd l0 ≤ 9223372036854775807)) r1.2.1 (by rw [← List.drop_drop]; exact r1.2.2)
      refine ⟨q1, r2.2.1, wd l0, r2.1, hlw, r1.1, rfl, ?_⟩
      rw [← List.drop_drop]
      exact r2.2.2
    generalize hq : rnT (b.drop (j0 + (rnT (b.drop j0) e0).2.1)) (rnT (b.drop j0) e0).2.2 = t at *
    obtain ⟨w, jj, e2⟩ := t
    simp only at key hB hj2
    clear hq
    generalize (rnT (b.drop j0) e0).1 = least at *
    generalize (rnT (b.drop j0) e0).2.2 = e1 at *
    generalize j0 + (rnT (b.drop j0) e0).2.1 = j1 at *
    generalize j1 + jj = j2 at *
    clear hst hhead hN hC hj0 hj hlen
    have hx2 : (if e2 = 0 then (1 : Int) else e2) ≠ 0 := by split <;> omega
    have BAD : (Gd b fun _ _ => False) → DcA b (li []) 1 [(0, rd2 b j2 (if e2 = 0 then 1 else e2))] := fun h => ⟨[], _, j2, AllI.nil, Nat.zero_le _, h.mono fun _ _ _ _ h => h.elim, rfl, rfl, rfl⟩
    conv => whnf
    refine acallM [0] [] (by kernel_rfl) hA rfl (by repeat' (first | rfl | trivial | apply And.intro)) (by repeat' (first | rfl | trivial | apply And.intro)) ?_
    rintro _ _ _ ⟨rfl, rfl, rfl⟩
    refine ⟨rfl, ?_⟩
    conv => whnf
    refine acallM [0] [] (by kernel_rfl) hB rfl (by repeat' (first | rfl | trivial | apply And.intro)) (by repeat' (first | rfl | trivial | apply And.intro)) ?_
    rintro _ _ _ ⟨rfl, rfl, rfl⟩
    refine ⟨rfl, ?_⟩
    conv => whnf
    by_cases hw : ¬ (0 ≤ w ∧ w ≤ 64)
    · have hG : Gd b fun _ _ => False := key.mono fun l0 r _ _ ⟨_, _, wn, h1, h2, _⟩ => hw (by omega)
      refine AAr.to rfl ?_
      conv => whnf
      refine AAr.to rfl ?_
      conv => whnf
      refine VReq.mk (by decide) ?_
      conv => whnf
      refine AAr.to rfl ?_
      conv => whnf
      (refine adraw pln49 [] (by kernel_rfl) ?_; conv => whnf)
      refine vif_split (fun h => ?_) (fun h => ?_)
      · conv => whnf
        refine acallM [0] [] (by kernel_rfl) (fail2A b j2 e2 1) rfl (by repeat' (first | rfl | trivial | apply And.intro)) (by repeat' (first | rfl | trivial | apply And.intro)) ?_
        rintro _ _ _ ⟨rfl, rfl, rfl⟩
        refine ⟨rfl, ?_⟩
        conv => whnf
        exact aend (li []) 1 [(0, rd2 b j2 (if e2 = 0 then 1 else e2))] [] [] (BAD hG) rfl (by repeat' (first | rfl | trivial | apply And.intro)) (by repeat' (first | rfl | trivial | apply And.intro))
      have h0 : ¬ w < 0 := by simpa using h
      conv => whnf
      refine vif_split (fun h => ?_) (fun h => ?_)
      · conv => whnf
        refine acallM [0] [] (by kernel_rfl) (fail2A b j2 e2 1) rfl (by repeat' (first | rfl | trivial | apply And.intro)) (by repeat' (first | rfl | trivial | apply And.intro)) ?_
        rintro _ _ _ ⟨rfl, rfl, rfl⟩
        refine ⟨rfl, ?_⟩
        conv => whnf
        exact aend (li []) 1 [(0, rd2 b j2 (if e2 = 0 then 1 else e2))] [] [] (BAD hG) rfl (by repeat' (first | rfl | trivial | apply And.intro)) (by repeat' (first | rfl | trivial | apply And.intro))
      · exfalso; simp at h; exact hw (by omega)
    have hw := Classical.not_not.1 hw
    obtain ⟨wn, rfl⟩ : ∃ wn : Nat, w = (wn : Int) := ⟨w.toNat, by omega⟩
    have hw64 : wn ≤ 64 := by omega
    have hnw : n * wn ≤ 40000 := by
      have := Nat.mul_le_mul hn hw64; omega
    have hs8 : sz5 n wn ≤ 5001 := by unfold sz5; omega
    have hQ : Gd b fun l0 r => l0.length = n ∧ e2 = 0 ∧ Q5 least wn (b.drop j2) l0 r := key.mono fun l0 r _ _ ⟨q1, q2, w', q3, q4, q5⟩ => ⟨q1, q2, by
      have : w' = wn := by omega
      subst this
      exact q5⟩
    clear key hA hB
    refine AAr.to (y := ((n * wn : Nat) : Int)) (by rw [← Int.natCast_mul]; exact IntWalk.i64_in _ (by omega)) ?_
    conv => whnf
    refine AAr.i64 (by omega) ?_
    conv => whnf
    refine VReq.mk (by decide) ?_
    conv => whnf
    refine AAr.to (y := ((sz5 n wn : Nat) : Int)) (by
      have e : Int.tdiv (((n * wn : Nat) : Int) + 7) 8 = ((sz5 n wn : Nat) : Int) := rfl
      rw [e]; exact IntWalk.i64_in _ (by omega)) ?_
    conv => whnf
    (refine adraw pln49 [] (by kernel_rfl) ?_; conv => whnf)
    refine vif_split (fun h => ?_) (fun h => ?_)
    · exfalso; simp at h; omega
    conv => whnf
    refine vif_split (fun h => ?_) (fun h => ?_)
    · have he : e2 ≠ 0 := by simpa using h
      conv => whnf
      refine acallM [0] [] (by kernel_rfl) (fail2A b j2 e2 1) rfl (by repeat' (first | rfl | trivial | apply And.intro)) (by repeat' (first | rfl | trivial | apply And.intro)) ?_
      rintro _ _ _ ⟨rfl, rfl, rfl⟩
      refine ⟨rfl, ?_⟩
      conv => whnf
      exact aend (li []) 1 [(0, rd2 b j2 (if e2 = 0 then 1 else e2))] [] [] (BAD (hQ.mono fun l0 r _ _ h => he h.2.1)) rfl (by repeat' (first | rfl | trivial | apply And.intro)) (by repeat' (first | rfl | trivial | apply And.intro))
    have he : e2 = 0 := by simpa using h
    subst he
    conv => whnf
    refine AAr.to (y := ((b.length - j2 : Nat) : Int)) (by rw [List.length_map, IntWalk.i64_in _ (by omega)]; omega) ?_
    conv => whnf
    refine vif_split (fun h => ?_) (fun h => ?_)
    · have hsz : b.length - j2 < sz5 n wn := by simp at h; omega
      conv => whnf
      refine acallM [0] [] (by kernel_rfl) (fail2A b j2 0 1) rfl (by repeat' (first | rfl | trivial | apply And.intro)) (by repeat' (first | rfl | trivial | apply And.intro)) ?_
      rintro _ _ _ ⟨rfl, rfl, rfl⟩
      refine ⟨rfl, ?_⟩
      conv => whnf
      exact aend (li []) 1 [(0, rd2 b j2 (if (0 : Int) = 0 then 1 else 0))] [] [] (BAD (hQ.mono fun l0 r _ _ h => by have := h.2.2.size; rw [List.length_drop, h.1] at this; omega)) rfl (by repeat' (first | rfl | trivial | apply And.intro)) (by repeat' (first | rfl | trivial | apply And.intro))
    have hsz : sz5 n wn ≤ b.length - j2 := by simp at h; omega
    conv => whnf
    clear hw BAD hx2
    refine aloop ws49_7 2 [5, 20] (fun x : BX => [(5, .own 1), (20, iv x.i)]) (fun x => [(1, .rows 3 1 (x.out.map enI)), (0, rd2 b j2 0)]) (fun x => x.i ≤ n ∧ x.out.length = x.i ∧ AllI x.out ∧ Gd b (fun l0 _ => x.out = l0.take x.i)) (fun x => n - x.i) [(1, .nil)] [] ⟨0, []⟩ (by kernel_rfl) (fun _ => rfl) rfl ⟨Nat.zero_le _, rfl, AllI.nil, fun l0 r _ _ _ => rfl⟩ ⟨rfl, (by repeat' (first | rfl | trivial | apply And.intro)), trivial⟩ ⟨trivial, rfl, trivial⟩ ?_
    rintro ⟨i, out⟩ ⟨hin, hol, hall, hP⟩
    change i ≤ n at hin
    change out.length = i at hol
    change AllI out at hall
    change Gd b (fun l0 _ => out = l0.take i) at hP
    conv => whnf
    refine vif_split (fun h => ?_) (fun h => ?_)
    rotate_left 1
    · have : i = n := by simp at h; omega
      subst this
      conv => whnf
      refine AAr.to (y := ((j2 + sz5 i wn : Nat) : Int)) (by show IntKind.i64.wrap ((j2 : Int) + ((sz5 i wn : Nat) : Int)) = _; rw [← Int.natCast_add]; exact IntWalk.i64_in _ (by omega)) ?_
      conv => whnf
      exact aend (li out) 1 [(0, rd2 b (j2 + sz5 i wn) 0)] [] [1] ⟨out, 0, j2 + sz5 i wn, hall, by omega, fun l0 r ha hl h => ⟨rfl, by
        have h1 := hP l0 r ha hl h
        have h2 := (hQ l0 r ha hl h).1
        rw [h1, ← h2, List.take_length]⟩, rfl, rfl, rfl⟩ rfl (by repeat' (first | rfl | trivial | apply And.intro)) (by repeat' (first | rfl | trivial | apply And.intro))
    have hlt : i < n := by simp at h; omega
    conv => whnf
    refine aloop ws49_8 2 [21, 22] (fun x : NX => [(21, uv x.u), (22, iv x.i)]) (fun _ => [(1, .rows 3 1 (out.map enI)), (0, rd2 b j2 0)]) (fun x => x.i ≤ wn ∧ x.u < 2 ^ x.i ∧ Gd b (fun l0 _ => x.u = dif least (l0.getD i 0) % 2 ^ x.i)) (fun x => wn - x.i) [] [] ⟨0, 0⟩ (by kernel_rfl) (fun _ => rfl) rfl ⟨Nat.zero_le _, Nat.one_pos, fun l0 r _ _ _ => by show 0 = _ % 2 ^ 0; rw [Nat.pow_zero, Nat.mod_one]⟩ ⟨⟨rfl, rfl, rfl⟩, (by repeat' (first | rfl | trivial | apply And.intro)), trivial⟩ ⟨rfl, rfl, trivial⟩ ?_
    rintro ⟨k, d⟩ ⟨hk, hd, hD⟩
    change k ≤ wn at hk
    change d < 2 ^ k at hd
    change Gd b (fun l0 _ => d = dif least (l0.getD i 0) % 2 ^ k) at hD
    conv => whnf
    refine vif_split (fun h => ?_) (fun h => ?_)
    · have hkw : k < wn := by simp at h; omega
      have hat := at_lt hlt hkw
      have hmul : i * wn + k ≤ 640000 := by omega
      have hbit : Gd b fun l0 _ => ∃ c, (b.drop j2)[(i * wn + k) / 8]? = some c ∧ c.toNat.testBit ((i * wn + k) % 8) = (dif least (l0.getD i 0)).testBit k := hQ.mono fun l0 r _ _ ⟨q1, _, q2⟩ => q2.bit (by omega) hkw
      conv => whnf
      refine AAr.to (y := ((i * wn : Nat) : Int)) (by show IntKind.i64.wrap ((i : Int) * (wn : Int)) = _; rw [← Int.natCast_mul]; exact IntWalk.i64_in _ (by omega)) ?_
      conv => whnf
      refine AAr.to (y := ((i * wn + k : Nat) : Int)) (by show IntKind.i64.wrap (((i * wn : Nat) : Int) + (k : Int)) = _; rw [← Int.natCast_add]; exact IntWalk.i64_in _ (by omega)) ?_
      conv => whnf
      generalize i * wn + k = p at *
      have hp8 : j2 + p / 8 < b.length := by omega
      have hbit2 : Gd b fun l0 _ => (b[j2 + p / 8]).toNat.testBit (p % 8) = (dif least (l0.getD i 0)).testBit k := hbit.mono fun l0 r _ _ ⟨c, c1, c2⟩ => by
        rw [List.getElem?_drop, List.getElem?_eq_getElem hp8] at c1
        injection c1 with c1
        rw [c1]; exact c2
      have hk64 : k < 64 := by omega
      (refine adraw pln49 [] (by kernel_rfl) ?_; conv => whnf)
      repeat' (first
        | (refine AAr.to (y := ((p / 8 : Nat) : Int)) (by
            have e : Int.tdiv (p : Int) 8 = ((p / 8 : Nat) : Int) := rfl
            rw [e]; exact IntWalk.i64_in _ (by omega)) ?_; conv => whnf)
        | (refine AAr.to (y := ((j2 + p / 8 : Nat) : Int)) (by show IntKind.i64.wrap ((j2 : Int) + ((p / 8 : Nat) : Int)) = _; rw [← Int.natCast_add]; exact IntWalk.i64_in _ (by omega)) ?_; conv => whnf)
        | (refine AIn.mk' (j2 + p / 8) rfl (by rw [List.length_map]; exact hp8) ?_; conv => whnf)
        | (refine ARd.map hp8 ?_; conv => whnf)
        | (refine VReq.mk (by decide) ?_; conv => whnf)
        | (refine VReq.mk (by omega) ?_; conv => whnf)
        | (refine VReq.mk (by show (0 : Int) ≤ (k : Int); omega) ?_; conv => whnf)
        | (refine AAr.to (y := ((p % 8 : Nat) : Int)) (wr_u64 (n := p % 8) (by omega)) ?_; conv => whnf)
        | (refine AAr.to (y := ((k : Nat) : Int)) (wr_u64 (n := k) (by omega)) ?_; conv => whnf)
        | (refine AAr.to (bitv8 b[j2 + p / 8] (s := p % 8) (Nat.mod_lt _ (by decide))) ?_; conv => whnf))
      generalize b[j2 + p / 8] = c at *
      have hsh := shl64 (c := if c.toNat.testBit (p % 8) = true then 1 else 0) (k := k) (by split <;> omega) hk64
      refine AAr.to hsh.1 ?_
      conv => whnf
      rw [or_bit hd hk64 hsh.2]
      conv => whnf
      refine AAr.i64 (x := (k : Int) + 1) (by omega) ?_
      conv => whnf
      refine aback ⟨k + 1, d + (if c.toNat.testBit (p % 8) = true then 1 else 0) * 2 ^ k⟩ [] [] rfl (by show wn - (k + 1) < wn - k; omega) ⟨hkw, ?_, fun l0 r ha hl hb0 => ?_⟩ ⟨⟨rfl, rfl, rfl⟩, (by repeat' (first | rfl | trivial | apply And.intro)), trivial⟩ ⟨rfl, rfl, trivial⟩
      · show d + (if c.toNat.testBit (p % 8) = true then 1 else 0) * 2 ^ k < 2 ^ (k + 1)
        rw [Nat.pow_succ]
        split <;> omega
      · show d + (if c.toNat.testBit (p % 8) = true then 1 else 0) * 2 ^ k = dif least (l0.getD i 0) % 2 ^ (k + 1)
        rw [bit_sum, ← hD l0 r ha hl hb0, hbit2 l0 r ha hl hb0]
    · have : k = wn := by simp at h; omega
      subst this
      conv => whnf
      refine AAr.to rfl ?_
      conv => whnf
      refine AAr.to rfl ?_
      conv => whnf
      refine AAr.to (add_ud _ _) ?_
      conv => whnf
      refine VReq.mk (app_ok (by simp only [List.length_map, List.length_append, List.length_cons, List.length_nil]; omega) (by kernel_rfl)) ?_
      conv => whnf
      refine AAr.i64 (x := (i : Int) + 1) (by omega) ?_
      conv => whnf
      refine aback ⟨i + 1, out ++ [w64 (least + (d : Int))]⟩ [(1, .lab 3)] [] rfl (by show n - (i + 1) < n - i; omega) ⟨hlt, by show (out ++ [w64 (least + (d : Int))]).length = i + 1; simp [hol], hall.snoc (w64_i _), fun l0 r ha hl hb0 => ?_⟩ ⟨⟨rfl, rfl, (snocI out _).symm⟩, (by repeat' (first | rfl | trivial | apply And.intro)), trivial⟩ ⟨rfl, rfl, trivial⟩
      show out ++ [w64 (least + (d : Int))] = l0.take (i + 1)
      have hq := hQ l0 r ha hl hb0
      have hil : i < l0.length := by omega
      rw [List.take_succ_eq_append_getElem hil, ← hP l0 r ha hl hb0]
      congr 2
      have := hq.2.2.val ha (i := i) (x := l0[i]) (List.getElem?_eq_getElem hil)
      rw [← hD l0 r ha hl hb0] at this
      exact this
  conv => whnf
  refine acallM [0] [] (by kernel_rfl) (fail2A b j0 e0 1) rfl (by repeat' (first | rfl | trivial | apply And.intro)) (by repeat' (first | rfl | trivial | apply And.intro)) ?_
  rintro _ _ _ ⟨rfl, rfl, rfl⟩
  refine ⟨rfl, ?_⟩
  conv => whnf
  exact aend (li []) 1 [(0, rd2 b j0 (if e0 = 0 then 1 else e0))] [] [] ⟨[], _, j0, AllI.nil, Nat.zero_le _, hhead.mono fun l0 r _ _ ⟨_, k, k1, k2, k3, _⟩ => by
    exfalso
    simp at hk1 hk2 hk3 hk4 hk5
    omega, rfl, rfl, rfl⟩ rfl (by repeat' (first | rfl | trivial | apply And.intro)) (by repeat' (first | rfl | trivial | apply And.intro))
end Go.Proofs.YtmhpfadbmpipkaaGreat.Cl

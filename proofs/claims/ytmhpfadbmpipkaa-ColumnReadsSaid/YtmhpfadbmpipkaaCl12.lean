/- The walks of the chapter's examples and of ColumnShort. Condition: none beside what the statement bounds. -/
import Derived.Test.YtmhpfadbmpipkaaCl11
set_option linter.unusedVariables false
set_option linter.unusedSimpArgs false
namespace Go.Proofs.Ytmhpfadbmpipkaa.Cl
open Go Go.RowKit Go.Proofs Go.Proofs.Ytmhpfadbmpipkaa.Vc Go.Proofs.Ytmhpfadbmpipkaa.Ax
attribute [local irreducible] loadVar storeVar Instr.indexAt Instr.index Instr.sliceAt Instr.makeSlice Instr.lookup Instr.mapUpdate Instr.range Instr.next Instr.entry Instr.makeMap Builtin.append_ Builtin.copy_ Builtin.len_ Builtin.min_ Builtin.max_ Builtin.cap_ Builtin.delete_ Builtin.clear_ convert binOp eqGuard Op.unary Calls
theorem ex1 : ints [7, 7, 7, 7] = [4, 8, 14, 8] := by decide
theorem ex2 : ints [] = [2, 0] := by decide
attribute [local irreducible] best ints en bd
theorem all7 : AllI [7, 7, 7, 7] := fun x hx => by
  simp at hx; subst hx; unfold I64; omega
theorem ABy.of {s : By} {K : ByteArray → Prop} (c : K ⟨s.toArray⟩) : ABy (s.map enB) K := ⟨⟨s, rfl, c⟩⟩
set_option maxHeartbeats 4000000 in
set_option maxRecDepth 100000 in
theorem awakeA : AFn Try.prog GC 7 [] 0 [] (Is (bv true)) := by
  have h1 := intsA [7, 7, 7, 7] all7 (by decide)
  have h2 := intsA [] AllI.nil (by decide)
  rw [ex1] at h1
  rw [ex2] at h2
  refine afn_of Try.func7 rfl mixed (by kernel_rfl) ?_
  conv => whnf
  (refine acallF [0] (by kernel_rfl) (h1) ?_ ?_; (focus (repeat' (first | rfl | trivial | apply And.intro))))
  rintro _ _ _ ⟨rfl, rfl, rfl⟩
  conv => whnf
  refine ABy.of ?_
  conv => whnf
  (repeat' (first | (refine And.intro ?_ ?_ <;> (conv => whnf)) | (refine vif_split (fun h => ?_) (fun h => ?_) <;> (try simp only [sEqD, cond_true, cond_false, Bool.not_eq_true', Bool.not_eq_false', decide_eq_true_eq, decide_eq_false_iff_not, beq_iff_eq, bne_iff_ne, beq_eq_false_iff_ne, bne_eq_false_iff_eq, ne_eq, Bool.not_eq_eq_eq_not, Bool.not_true, Bool.not_false, Bool.false_eq_true, Bool.true_eq_false, Decidable.not_not, gt_iff_lt, ge_iff_le, Int.not_lt, Int.not_le] at h) <;> (conv => whnf)) | (refine AAr.i64 (by first | omega | ((try simp only [List.length_map] at *); omega)) ?_; conv => whnf) | (refine AIn.mk' _ rfl (by first | omega | (simp only [List.length_map, List.length_append, List.length_cons, List.length_nil, List.length_take, List.length_drop, List.length_set, List.length_replicate]; omega) | (simp only [List.length_map, List.length_append, List.length_cons, List.length_nil, List.length_take, List.length_drop, List.length_set, List.length_replicate] at *; omega)) ?_; conv => whnf) | (refine ARd.mapAt (by assumption) ?_; conv => whnf) | (refine ARd.set (by (try simp only [List.length_map, List.length_append, List.length_cons, List.length_nil, List.length_take, List.length_drop, List.length_set, List.length_replicate] at *); omega) ?_; conv => whnf) | (refine ARd.map (by first | omega | (simp only [List.length_map] at *; omega)) ?_; conv => whnf) | (refine VReq.mk (by first | decide | omega) ?_; conv => whnf) | (refine AEq.mk (by kernel_rfl) rfl rfl ?_; conv => whnf) | (refine VReq.mk (app_ok (by (try simp only [List.length_map, List.length_append, List.length_cons, List.length_nil, List.length_take, List.length_drop, List.length_set, List.length_replicate] at *); omega) (by kernel_rfl)) ?_; conv => whnf)))
  all_goals try (exfalso; revert h; decide)
  (refine acallF [] (by kernel_rfl) (h2) ?_ ?_; (focus (repeat' (first | rfl | trivial | apply And.intro))))
  rintro _ _ _ ⟨rfl, rfl, rfl⟩
  conv => whnf
  refine ABy.of ?_
  conv => whnf
  refine aret [] ?_
  exact congrArg Value.bool (by simp [sEqD])
def bitI (y : Int) (out : Li) : Prop := ∀ z ∈ out, z = y ∨ z = y + 1
theorem bitI.snoc {y z : Int} {out : Li} (h : bitI y out) (hz : z = y ∨ z = y + 1) : bitI y (out ++ [z]) := fun x hx => by
  rcases List.mem_append.1 hx with e | e
  · exact h x e
  · rw [List.mem_singleton.1 e]; exact hz
def enBo (b : Bool) : List FV := [.v (.bool b)]
def itr (x s : Int) : Nat → Int
  | 0 => x
  | n + 1 => w64 (itr x s n + s)
theorem itr_shift (s : Int) : ∀ n x, itr (w64 (x + s)) s n = itr x s (n + 1) := by
  intro n
  induction n with
  | zero => intro x; rfl
  | succ n ih => intro x; show w64 (itr (w64 (x + s)) s n + s) = _; rw [ih]; rfl
theorem stp_snoc (s : Int) : ∀ n x, stp x s (n + 1) = stp x s n ++ [itr x s n] := by
  intro n
  induction n with
  | zero => intro x; rfl
  | succ n ih => intro x; rw [stp, ih, itr_shift]; rfl
theorem itr_i {x : Int} (s : Int) (h : I64 x) (n : Nat) : I64 (itr x s n) := by
  cases n with
  | zero => exact h
  | succ n => exact w64_i _
/-- an addition of words -/
theorem add_u (x s : Int) : IntKind.i64.wrap (IntKind.u64.wrap (IntKind.u64.wrap x + IntKind.u64.wrap s)) = w64 (x + s) := by
  have e : IntKind.u64.bits = 64 := rfl
  have e1 : IntKind.u64.signed = false := rfl
  have := w64_of (IntKind.u64.wrap (IntKind.u64.wrap x + IntKind.u64.wrap s))
  unfold w64 at this
  rw [this, w64_of]
  simp only [IntKind.wrap, e, e1, Bool.false_and, Bool.false_eq_true, if_false]
  omega
abbrev u8v (n : Nat) : AV := .v (.int .u8 (n : Int))
structure BX where
  i : Nat
  out : Li
set_option maxHeartbeats 8000000 in
set_option maxRecDepth 100000 in
theorem shortA (first step : Int) (n : Nat) (l : List Bool) (hf : I64 first) (hst : I64 step) (hn : n < 256) : AFn Try.prog GC 4 [iv first, iv step, u8v n, .lst 1 (l.map enBo)] 0 [] (Is (bv true)) := by
  refine afn_of Try.func4 rfl mixed (by kernel_rfl) ?_
  conv => whnf
  (refine acall [] (by kernel_rfl) (awakeA) rfl ?_ ?_; (focus (repeat' (first | rfl | trivial | apply And.intro))))
  conv => whnf
  refine AAr.i64 (by omega) ?_
  conv => whnf
  refine VReq.mk (by decide) ?_
  conv => whnf
  refine AAr.to (y := ((1 + n % 200 : Nat) : Int)) (by
    have e : Int.tmod (n : Int) 200 = ((n % 200 : Nat) : Int) := rfl
    rw [e]; rw [IntWalk.i64_in _ (by omega)]; omega) ?_
  conv => whnf
  obtain ⟨k, hk⟩ : ∃ k, k = 1 + n % 200 := ⟨_, rfl⟩
  rw [← hk]
  have hk1 : 1 ≤ k ∧ k ≤ 200 := by omega
  refine aloop ws4_1 2 [10, 11, 13, 14] (fun i : Nat => [(10, .own 0), (11, .own 1), (13, iv (itr first step i)), (14, iv i)]) (fun i => [(0, .rows 3 1 ((List.replicate i first).map enI)), (1, .rows 3 1 ((stp first step i).map enI))]) (fun i => i ≤ k) (fun i => k - i) [(0, .nil), (1, .nil)] [] 0 (by kernel_rfl) (fun _ => rfl) rfl (Nat.zero_le _) ⟨rfl, rfl, trivial⟩ ⟨trivial, trivial, rfl, rfl, trivial⟩ ?_
  rintro i hi
  conv => whnf
  refine vif_split (fun h => ?_) (fun h => ?_)
  · have hlt : i < k := by simp at h; omega
    have hsl := stp_len step i first
    conv => whnf
    refine VReq.mk (app_ok (by simp only [List.length_map, List.length_append, List.length_replicate, List.length_cons, List.length_nil]; omega) (by kernel_rfl)) ?_
    conv => whnf
    refine VReq.mk (app_ok (by simp only [List.length_map, List.length_append, hsl, List.length_cons, List.length_nil]; omega) (by kernel_rfl)) ?_
    conv => whnf
    refine AAr.to rfl ?_
    conv => whnf
    refine AAr.to rfl ?_
    conv => whnf
    refine AAr.to rfl ?_
    conv => whnf
    refine AAr.to (add_u _ _) ?_
    conv => whnf
    refine AAr.i64 (by omega) ?_
    conv => whnf
    refine aback (i + 1) [(0, .lab 3), (1, .lab 5)] [] rfl (by show k - (i + 1) < k - i; omega) hlt ⟨⟨rfl, rfl, ?_⟩, ⟨rfl, rfl, ?_⟩, trivial⟩ ⟨rfl, rfl, rfl, rfl, trivial⟩
    · rw [List.replicate_succ', List.map_append]; rfl
    · rw [stp_snoc, List.map_append]; rfl
  · have : i = k := by simp at h; omega
    subst this
    conv => whnf
    have hsame := intsA (List.replicate i first) (AllI.rep hf i) (by rw [List.length_replicate]; omega)
    have hstp := intsA (stp first step i) (stp_all step i first hf) (by rw [stp_len]; omega)
    have b1 := short_same first i hk1.1 (by omega)
    have b2 := short_stp (x := first) hst i 10 (num_len step).2 hk1.1 (by omega)
    have b3 : -60 ≤ step ∧ step ≤ 60 → (ints (stp first step i)).length ≤ 13 + 1 * (i - 1) := fun ⟨h1, h2⟩ => short_stp (x := first) hst i 1 (Nat.le_of_eq (num_one (by unfold zu; split <;> omega))) hk1.1 (by omega)
    obtain ⟨y, hy⟩ : ∃ y, y = min first 4611686018427387904 := ⟨_, rfl⟩
    have hyi : I64 y ∧ I64 (y + 1) := by unfold I64 at *; omega
    have hsl := stp_len step i first
    refine aloop ws4_2 3 [12, 15] (fun x : BX => [(12, .own 2), (15, iv x.i)]) (fun x => [(2, .rows 3 1 (x.out.map enI)), (0, .rows 3 1 ((List.replicate i first).map enI)), (1, .rows 3 1 ((stp first step i).map enI))]) (fun x => x.i ≤ 200 ∧ x.out.length = x.i ∧ bitI y x.out) (fun x => 200 - x.i) [(2, .nil)] [] ⟨0, []⟩ (by kernel_rfl) (fun _ => rfl) rfl ⟨Nat.zero_le _, rfl, fun _ h => absurd h (by simp)⟩ ⟨rfl, ⟨rfl, rfl, rfl⟩, ⟨rfl, rfl, rfl⟩, trivial⟩ ⟨trivial, rfl, trivial⟩ ?_
    rintro ⟨j, out⟩ ⟨hj, hol, hbi⟩
    change j ≤ 200 at hj
    change out.length = j at hol
    change bitI y out at hbi
    conv => whnf
    refine vif_split (fun h1 => ?_) (fun h1 => ?_)
    · have hjl : j < l.length := by simp at h1; omega
      conv => whnf
      refine vif_split (fun h2 => ?_) (fun h2 => ?_)
      · have hj2 : j < 200 := by simp at h2; omega
        conv => whnf
        rw [← hy]
        refine AIn.mk' j rfl (by rw [List.length_map]; exact hjl) ?_
        conv => whnf
        refine ARd.map hjl ?_
        conv => whnf
        generalize l[j] = bb
        cases bb
        · conv => whnf
          refine VReq.mk (app_ok (by simp only [List.length_map, List.length_append, List.length_cons, List.length_nil]; omega) (by kernel_rfl)) ?_
          conv => whnf
          refine AAr.i64 (x := (j : Int) + 1) (by omega) ?_
          conv => whnf
          refine aback ⟨j + 1, out ++ [y]⟩ [(2, .lab 4)] [] rfl (by show 200 - (j + 1) < 200 - j; omega) ⟨hj2, by show (out ++ [y]).length = j + 1; simp [hol], hbi.snoc (.inl rfl)⟩ ⟨⟨rfl, rfl, by rw [List.map_append]; rfl⟩, ⟨rfl, rfl, rfl⟩, ⟨rfl, rfl, rfl⟩, trivial⟩ ⟨rfl, rfl, trivial⟩
        · conv => whnf
          refine AAr.i64 hyi.2 ?_
          conv => whnf
          refine VReq.mk (app_ok (by simp only [List.length_map, List.length_append, List.length_cons, List.length_nil]; omega) (by kernel_rfl)) ?_
          conv => whnf
          refine AAr.i64 (x := (j : Int) + 1) (by omega) ?_
          conv => whnf
          refine aback ⟨j + 1, out ++ [y + 1]⟩ [(2, .lab 4)] [] rfl (by show 200 - (j + 1) < 200 - j; omega) ⟨hj2, by show (out ++ [y + 1]).length = j + 1; simp [hol], hbi.snoc (.inr rfl)⟩ ⟨⟨rfl, rfl, by rw [List.map_append]; rfl⟩, ⟨rfl, rfl, rfl⟩, ⟨rfl, rfl, rfl⟩, trivial⟩ ⟨rfl, rfl, trivial⟩
      · conv => whnf
        (refine acallF [0] (by kernel_rfl) (hsame) ?_ ?_; (focus (repeat' (first | rfl | trivial | apply And.intro))))
        rintro _ _ _ ⟨rfl, rfl, rfl⟩
        conv => whnf
        refine vif_split (fun h3 => ?_) (fun h3 => ?_)
        rotate_left 1
        · exfalso; simp only [List.length_map, decide_eq_false_iff_not] at h3; omega
        conv => whnf
        (refine acallF [1] (by kernel_rfl) (hstp) ?_ ?_; (focus (repeat' (first | rfl | trivial | apply And.intro))))
        rintro _ _ _ ⟨rfl, rfl, rfl⟩
        conv => whnf
        refine AAr.i64 (by omega) ?_
        conv => whnf
        refine AAr.i64 (by omega) ?_
        conv => whnf
        refine vif_split (fun h4 => ?_) (fun h4 => ?_)
        rotate_left 1
        · exfalso; simp only [List.length_map, cond_true, decide_eq_false_iff_not] at h4; omega
        conv => whnf
        have hbits := intsA out (fun z hz => by rcases hbi z hz with e | e; exact e ▸ hyi.1; exact e ▸ hyi.2) (by omega)
        have b4 := short_bits out y hbi (by omega)
        (refine acallF [2] (by kernel_rfl) (hbits) ?_ ?_; (focus (repeat' (first | rfl | trivial | apply And.intro))))
        rintro _ _ _ ⟨rfl, rfl, rfl⟩
        conv => whnf
        refine AAr.to (y := ((out.length + 7 : Nat) : Int)) (by rw [List.length_map]; exact IntWalk.i64_in _ (by show _ ≤ ((out.length : Nat) : Int) + 7 ∧ ((out.length : Nat) : Int) + 7 ≤ _; omega)) ?_
        conv => whnf
        refine VReq.mk (by decide) ?_
        conv => whnf
        refine AAr.to (y := (((out.length + 7) / 8 : Nat) : Int)) (by
          have e : Int.tdiv ((out.length + 7 : Nat) : Int) 8 = (((out.length + 7) / 8 : Nat) : Int) := rfl
          rw [e]; exact IntWalk.i64_in _ (by omega)) ?_
        conv => whnf
        refine AAr.i64 (by omega) ?_
        conv => whnf
        refine vif_split (fun h5 => ?_) (fun h5 => ?_)
        rotate_left 1
        · exfalso; simp only [List.length_map, cond_true, decide_eq_false_iff_not] at h5; omega
        conv => whnf
        (repeat' (first | (refine And.intro ?_ ?_ <;> (conv => whnf)) | (refine vif_split (fun h => ?_) (fun h => ?_) <;> (try simp only [sEqD, cond_true, cond_false, Bool.not_eq_true', Bool.not_eq_false', decide_eq_true_eq, decide_eq_false_iff_not, beq_iff_eq, bne_iff_ne, beq_eq_false_iff_ne, bne_eq_false_iff_eq, ne_eq, Bool.not_eq_eq_eq_not, Bool.not_true, Bool.not_false, Bool.false_eq_true, Bool.true_eq_false, Decidable.not_not, gt_iff_lt, ge_iff_le, Int.not_lt, Int.not_le] at h) <;> (conv => whnf)) | (refine AAr.i64 (by first | omega | ((try simp only [List.length_map] at *); omega)) ?_; conv => whnf) | (refine AIn.mk' _ rfl (by first | omega | (simp only [List.length_map, List.length_append, List.length_cons, List.length_nil, List.length_take, List.length_drop, List.length_set, List.length_replicate]; omega) | (simp only [List.length_map, List.length_append, List.length_cons, List.length_nil, List.length_take, List.length_drop, List.length_set, List.length_replicate] at *; omega)) ?_; conv => whnf) | (refine ARd.mapAt (by assumption) ?_; conv => whnf) | (refine ARd.set (by (try simp only [List.length_map, List.length_append, List.length_cons, List.length_nil, List.length_take, List.length_drop, List.length_set, List.length_replicate] at *); omega) ?_; conv => whnf) | (refine ARd.map (by first | omega | (simp only [List.length_map] at *; omega)) ?_; conv => whnf) | (refine VReq.mk (by first | decide | omega) ?_; conv => whnf) | (refine AEq.mk (by kernel_rfl) rfl rfl ?_; conv => whnf) | (refine VReq.mk (app_ok (by (try simp only [List.length_map, List.length_append, List.length_cons, List.length_nil, List.length_take, List.length_drop, List.length_set, List.length_replicate] at *); omega) (by kernel_rfl)) ?_; conv => whnf)))
        · exact aret [] (by repeat' (first | rfl | trivial | apply And.intro))
        · exact aret [] (by repeat' (first | rfl | trivial | apply And.intro))
        have b6 := b3 (by omega)
        (refine acallF [] (by kernel_rfl) (hstp) ?_ ?_; (focus (repeat' (first | rfl | trivial | apply And.intro))))
        rintro _ _ _ ⟨rfl, rfl, rfl⟩
        conv => whnf
        refine AAr.i64 (by omega) ?_
        conv => whnf
        refine aret [] (congrArg Value.bool ?_)
        simp only [List.length_map, cond_true, cond_false]
        exact decide_eq_true (by omega)
    · conv => whnf
      · skip
        (refine acallF [0] (by kernel_rfl) (hsame) ?_ ?_; (focus (repeat' (first | rfl | trivial | apply And.intro))))
        rintro _ _ _ ⟨rfl, rfl, rfl⟩
        conv => whnf
        refine vif_split (fun h3 => ?_) (fun h3 => ?_)
        rotate_left 1
        · exfalso; simp only [List.length_map, decide_eq_false_iff_not] at h3; omega
        conv => whnf
        (refine acallF [1] (by kernel_rfl) (hstp) ?_ ?_; (focus (repeat' (first | rfl | trivial | apply And.intro))))
        rintro _ _ _ ⟨rfl, rfl, rfl⟩
        conv => whnf
        refine AAr.i64 (by omega) ?_
        conv => whnf
        refine AAr.i64 (by omega) ?_
        conv => whnf
        refine vif_split (fun h4 => ?_) (fun h4 => ?_)
        rotate_left 1
        · exfalso; simp only [List.length_map, cond_true, decide_eq_false_iff_not] at h4; omega
        conv => whnf
        have hbits := intsA out (fun z hz => by rcases hbi z hz with e | e; exact e ▸ hyi.1; exact e ▸ hyi.2) (by omega)
        have b4 := short_bits out y hbi (by omega)
        (refine acallF [2] (by kernel_rfl) (hbits) ?_ ?_; (focus (repeat' (first | rfl | trivial | apply And.intro))))
        rintro _ _ _ ⟨rfl, rfl, rfl⟩
        conv => whnf
        refine AAr.to (y := ((out.length + 7 : Nat) : Int)) (by rw [List.length_map]; exact IntWalk.i64_in _ (by show _ ≤ ((out.length : Nat) : Int) + 7 ∧ ((out.length : Nat) : Int) + 7 ≤ _; omega)) ?_
        conv => whnf
        refine VReq.mk (by decide) ?_
        conv => whnf
        refine AAr.to (y := (((out.length + 7) / 8 : Nat) : Int)) (by
          have e : Int.tdiv ((out.length + 7 : Nat) : Int) 8 = (((out.length + 7) / 8 : Nat) : Int) := rfl
          rw [e]; exact IntWalk.i64_in _ (by omega)) ?_
        conv => whnf
        refine AAr.i64 (by omega) ?_
        conv => whnf
        refine vif_split (fun h5 => ?_) (fun h5 => ?_)
        rotate_left 1
        · exfalso; simp only [List.length_map, cond_true, decide_eq_false_iff_not] at h5; omega
        conv => whnf
        (repeat' (first | (refine And.intro ?_ ?_ <;> (conv => whnf)) | (refine vif_split (fun h => ?_) (fun h => ?_) <;> (try simp only [sEqD, cond_true, cond_false, Bool.not_eq_true', Bool.not_eq_false', decide_eq_true_eq, decide_eq_false_iff_not, beq_iff_eq, bne_iff_ne, beq_eq_false_iff_ne, bne_eq_false_iff_eq, ne_eq, Bool.not_eq_eq_eq_not, Bool.not_true, Bool.not_false, Bool.false_eq_true, Bool.true_eq_false, Decidable.not_not, gt_iff_lt, ge_iff_le, Int.not_lt, Int.not_le] at h) <;> (conv => whnf)) | (refine AAr.i64 (by first | omega | ((try simp only [List.length_map] at *); omega)) ?_; conv => whnf) | (refine AIn.mk' _ rfl (by first | omega | (simp only [List.length_map, List.length_append, List.length_cons, List.length_nil, List.length_take, List.length_drop, List.length_set, List.length_replicate]; omega) | (simp only [List.length_map, List.length_append, List.length_cons, List.length_nil, List.length_take, List.length_drop, List.length_set, List.length_replicate] at *; omega)) ?_; conv => whnf) | (refine ARd.mapAt (by assumption) ?_; conv => whnf) | (refine ARd.set (by (try simp only [List.length_map, List.length_append, List.length_cons, List.length_nil, List.length_take, List.length_drop, List.length_set, List.length_replicate] at *); omega) ?_; conv => whnf) | (refine ARd.map (by first | omega | (simp only [List.length_map] at *; omega)) ?_; conv => whnf) | (refine VReq.mk (by first | decide | omega) ?_; conv => whnf) | (refine AEq.mk (by kernel_rfl) rfl rfl ?_; conv => whnf) | (refine VReq.mk (app_ok (by (try simp only [List.length_map, List.length_append, List.length_cons, List.length_nil, List.length_take, List.length_drop, List.length_set, List.length_replicate] at *); omega) (by kernel_rfl)) ?_; conv => whnf)))
        · exact aret [] (by repeat' (first | rfl | trivial | apply And.intro))
        · exact aret [] (by repeat' (first | rfl | trivial | apply And.intro))
        have b6 := b3 (by omega)
        (refine acallF [] (by kernel_rfl) (hstp) ?_ ?_; (focus (repeat' (first | rfl | trivial | apply And.intro))))
        rintro _ _ _ ⟨rfl, rfl, rfl⟩
        conv => whnf
        refine AAr.i64 (by omega) ?_
        conv => whnf
        refine aret [] (congrArg Value.bool ?_)
        simp only [List.length_map, cond_true, cond_false]
        exact decide_eq_true (by omega)
end Go.Proofs.Ytmhpfadbmpipkaa.Cl

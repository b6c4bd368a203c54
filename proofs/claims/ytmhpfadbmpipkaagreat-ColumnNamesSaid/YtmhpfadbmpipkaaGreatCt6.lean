/- The walk of flagstoneref31.ReadTexts. Condition: at most 100000 bytes. -/
import Derived.Test.YtmhpfadbmpipkaaGreatCt5
set_option linter.unusedVariables false
set_option linter.unusedSimpArgs false
namespace Go.Proofs.YtmhpfadbmpipkaaGreat.Cl
open Go Go.RowKit Go.Proofs Go.Proofs.YtmhpfadbmpipkaaGreat.Vc Go.Proofs.YtmhpfadbmpipkaaGreat.Ax
attribute [local irreducible] loadVar storeVar Instr.indexAt Instr.index Instr.sliceAt Instr.makeSlice Instr.lookup Instr.mapUpdate Instr.range Instr.next Instr.entry Instr.makeMap Builtin.append_ Builtin.copy_ Builtin.len_ Builtin.min_ Builtin.max_ Builtin.cap_ Builtin.delete_ Builtin.clear_ convert binOp eqGuard Op.unary Calls
attribute [local irreducible] best ints en bd
structure TY where
  ks : Tx
  j : Nat
  e : Int
/-- how far the texts are read by the document's reader -/
def KJ (b : By) (n : Nat) (x : TY) : Prop := x.ks.length ≤ n ∧ TOK x.ks ∧ x.j ≤ b.length ∧ GT b fun l0 r => x.e = 0 ∧ (dsT l0).length = n ∧ QT l0 r x.ks (b.drop x.j)
set_option maxHeartbeats 16000000 in
set_option maxRecDepth 100000 in
theorem readTexts2A (b : By) (hb : b.length ≤ 100000) : AFn Tryz.prog GC 11 [bs b] 0 [] (RTa b) := by
  have hC := count2A b 0 0 512 (by omega) (Nat.zero_le _) (by decide)
  have hcl := cnT_le b 0 512 5
  have hcr := cnT_rng b 0 512 5 (by decide) (by decide)
  have hhead := gt_head b
  rw [List.drop_zero, Nat.zero_add] at hC
  generalize cnT b 0 512 5 = c at *
  obtain ⟨x, k, e⟩ := c
  simp only at hC hcr hhead hcl
  obtain ⟨n, rfl⟩ : ∃ n : Nat, x = (n : Int) := ⟨x.toNat, by omega⟩
  have hn : n ≤ 512 := by omega
  have hk0 : KJ b n ⟨[], k, e⟩ := ⟨Nat.zero_le _, fun _ h => (by cases h), hcl, fun l0 r hl ht hb => by
    have := hhead l0 r hl ht hb
    exact ⟨this.1, by omega, this.2.2⟩⟩
  clear hhead hcr hcl
  refine afn_of Tryz.func11 rfl mixed (by kernel_rfl) ?_
  conv => whnf
  (refine acallF [] (by kernel_rfl) (new2A b) ?_ ?_; (focus (repeat' (first | rfl | trivial | apply And.intro))))
  rintro _ _ _ ⟨rfl, rfl, rfl⟩
  conv => whnf
  refine acallM [0] [] (by kernel_rfl) hC rfl (by repeat' (first | rfl | trivial | apply And.intro)) (by repeat' (first | rfl | trivial | apply And.intro)) ?_
  rintro _ _ _ ⟨rfl, rfl, rfl⟩
  refine ⟨rfl, ?_⟩
  conv => whnf
  refine aloop ws11_1 2 [7, 9] (fun x : TY => [(7, .own 1), (9, iv x.ks.length)]) (fun x => [(1, .rows 9 1 (x.ks.map enT)), (0, rd2 b x.j x.e)]) (KJ b n) (fun x => n - x.ks.length) [(1, .nil)] [] ⟨[], k, e⟩ (by kernel_rfl) (fun _ => rfl) rfl hk0 ⟨rfl, (by repeat' (first | rfl | trivial | apply And.intro)), trivial⟩ ⟨trivial, rfl, trivial⟩ ?_
  rintro ⟨ks, j, e'⟩ ⟨k1, k2, k3, k4⟩
  change ks.length ≤ n at k1
  change TOK ks at k2
  change j ≤ b.length at k3
  change GT b fun l0 r => e' = 0 ∧ (dsT l0).length = n ∧ QT l0 r ks (b.drop j) at k4
  conv => whnf
  refine vif_split (fun h => ?_) (fun h => ?_)
  · have hlt : ks.length < n := by simp at h; omega
    have hT := text2A b j e' (by omega) k3
    have hto := txT_ok (b.drop j) e'
    have hstep : GT b fun l0 r => (txT (b.drop j) e').2.2 = 0 ∧ (dsT l0).length = n ∧ QT l0 r (ks ++ [(txT (b.drop j) e').1]) ((b.drop j).drop (txT (b.drop j) e').2.1) := fun l0 r hl ht hbb => by
      obtain ⟨h1, h2, h3⟩ := k4 l0 r hl ht hbb
      subst h1
      have := h3.step ht (by omega)
      exact ⟨this.1, h2, this.2⟩
    generalize txT (b.drop j) e' = t at *
    obtain ⟨s, q, f⟩ := t
    simp only at hto hstep
    have hs2 : s.length ≤ 200 := hto.1
    have hjq : j + (if f = 0 then q else 0) ≤ b.length := by
      have := hto.2.1
      rw [List.length_drop] at this
      split <;> omega
    have hnew : GT b fun l0 r => f = 0 ∧ (dsT l0).length = n ∧ QT l0 r (ks ++ [s]) (b.drop (j + (if f = 0 then q else 0))) := fun l0 r hl ht hbb => by
      obtain ⟨h1, h2, h3⟩ := hstep l0 r hl ht hbb
      subst h1
      rw [if_pos rfl, ← List.drop_drop]
      exact ⟨rfl, h2, h3⟩
    have hT' : AFn Tryz.prog GC 31 [.ptr 0 0, iv 200] 1 [(0, rd2 b j e')] (fun a n H => a = tv s ∧ n = 1 ∧ H = [(0, rd2 b (j + (if f = 0 then q else 0)) f)]) := hT
    clear hT hstep hto
    generalize j + (if f = 0 then q else 0) = j' at *
    conv => whnf
    refine acallM [0] [] (by kernel_rfl) hT' rfl (by repeat' (first | rfl | trivial | apply And.intro)) (by repeat' (first | rfl | trivial | apply And.intro)) ?_
    rintro _ _ _ ⟨rfl, rfl, rfl⟩
    refine ⟨rfl, ?_⟩
    conv => whnf
    refine VReq.mk (app_ok (by simp only [List.length_map, List.length_append, List.length_cons, List.length_nil]; omega) (by kernel_rfl)) ?_
    conv => whnf
    refine AAr.i64 (by simp only; omega) ?_
    conv => whnf
    refine aback ⟨ks ++ [s], j', f⟩ [(1, .lab 3)] [] rfl (by show n - (ks ++ [s]).length < n - ks.length; rw [List.length_append]; simp only [List.length_cons, List.length_nil]; omega) ⟨by show (ks ++ [s]).length ≤ n; rw [List.length_append]; simp only [List.length_cons, List.length_nil]; omega, fun t ht => ?_, hjq, hnew⟩ ⟨⟨rfl, rfl, (enT_snoc ks s).symm⟩, ⟨rfl, ⟨rfl, rfl⟩, rfl, rfl, trivial⟩, trivial⟩ ⟨rfl, ?_, trivial⟩
    · rcases List.mem_append.1 ht with h | h
      · exact k2 t h
      · rw [List.mem_singleton.1 h]; exact hs2
    · refine congrArg (fun n : Int => Value.int .i64 n) ?_
      show _ = ((ks ++ [s]).length : Int)
      rw [List.length_append]; rfl
  · have hkn : ks.length = n := by simp at h; omega
    have hfin : GT b fun l0 r => ks = dsT l0 ∧ b.drop j = ints (ixT (dsT l0) l0) ++ r := fun l0 r hl ht hb => by
      have := k4 l0 r hl ht hb
      exact this.2.2.fin (by omega)
    conv => whnf
    refine vif_split (fun h => ?_) (fun h => ?_)
    · have he : e' ≠ 0 := by simpa using h
      conv => whnf
      exact aend (.tup [tl [], iv (0 : Nat), iv 1]) 0 [] [] [] ⟨[], 0, 1, RTs.bad fun l0 r ha hl h => he (k4 l0 r ha hl h).1, rfl, rfl, rfl⟩ rfl trivial (by repeat' (first | rfl | trivial | apply And.intro))
    have he : e' = 0 := by simpa using h
    subst he
    conv => whnf
    refine ABd.mk' j b.length rfl (by rw [List.length_map]) k3 (by rw [List.length_map]; exact Nat.le_refl _) ?_
    conv => whnf
    have hdrop : (b.map enB).drop j = (b.drop j).map enB := List.map_drop.symm
    rw [show cut (some (AV.v (.int .i64 ((j : Nat) : Int)))) none j b.length (b.map enB) = (b.drop j).map enB from hdrop]
    have hb' : (b.drop j).length ≤ 100000 := drop_le hb
    (refine acallF [] (by kernel_rfl) (readInts2A (b.drop j) hb') ?_ ?_; (focus (repeat' (first | rfl | trivial | apply And.intro))))
    rintro _ _ _ ⟨il, m, f, hR, rfl, rfl, rfl⟩
    have hgood : GT b fun l0 r => f = 0 ∧ il = ixT (dsT l0) l0 ∧ ks = dsT l0 := fun l0 r hl ht hb => by
      have h1 := hfin l0 r hl ht hb
      have h2 := dsT_len l0
      have h3 := hR.2.2.2 _ r (ixT_all (dsT l0) l0 (fun x hx => (dsT_mem l0 x).2 hx) (by omega)) (by rw [ixT_len]; exact hl) h1.2
      exact ⟨h3.1, h3.2, h1.1⟩
    have hil := hR.2.1
    have hR1 := hR.1
    have hR3 := hR.2.2.1
    clear hdrop hfin hR hC hk0
    conv => whnf
    refine vif_split (fun h => ?_) (fun h => ?_)
    · have he : f ≠ 0 := by simpa using h
      obtain rfl : f = 1 := by
        rcases hR3 with ⟨h, _⟩ | ⟨h, _⟩
        · exact absurd h he
        · exact h
      conv => whnf
      exact aend (.tup [tl [], iv (0 : Nat), iv 1]) 0 [] [] [] ⟨[], 0, 1, RTs.bad fun l0 r ha hl h => he (hgood l0 r ha hl h).1, rfl, rfl, rfl⟩ rfl trivial (by repeat' (first | rfl | trivial | apply And.intro))
    conv => whnf
    refine aloop ws11_2 3 [8, 13] (fun i : Nat => [(8, .own 2), (13, iv i)]) (fun i => [(2, .rows 9 1 ((lkT ks (il.take i)).map enT)), (1, .rows 9 1 (ks.map enT)), (0, rd2 b j 0)]) (fun i => i ≤ il.length ∧ ∀ j (h : j < il.length), j < i → 0 ≤ il[j] ∧ il[j] < (ks.length : Int)) (fun i => il.length - i) [(2, .nil)] [] 0 (by kernel_rfl) (fun _ => rfl) rfl ⟨Nat.zero_le _, fun j _ h => absurd h (Nat.not_lt_zero j)⟩ ⟨rfl, ⟨rfl, rfl, rfl⟩, (by repeat' (first | rfl | trivial | apply And.intro)), trivial⟩ ⟨trivial, rfl, trivial⟩ ?_
    rintro i ⟨hi, hin⟩
    conv => whnf
    refine vif_split (fun h => ?_) (fun h => ?_)
    · have hlt : i < il.length := by simp at h; omega
      have hat := List.getElem?_eq_getElem hlt
      conv => whnf
      refine AIn.mk' i rfl (by rw [List.length_map]; exact hlt) ?_
      conv => whnf
      refine ARd.mapAt hat ?_
      conv => whnf
      have hbad : ¬ (0 ≤ il[i] ∧ il[i] < (ks.length : Int)) → GT b fun _ _ => False := fun hx l0 r hl ht hb => by
        obtain ⟨_, h2, h3⟩ := hgood l0 r hl ht hb
        have hlt' : i < (ixT (dsT l0) l0).length := by rw [← h2]; exact hlt
        have e : il[i] = (ixT (dsT l0) l0)[i]'hlt' := by simp only [h2]
        rw [ixT_len] at hlt'
        have e2 : il[i] = ((idxT (dsT l0) l0[i] : Nat) : Int) := by rw [e]; simp [ixT]
        have := (idxT_lt ((dsT_mem l0 l0[i]).2 (List.getElem_mem hlt'))).1
        exact hx (by rw [h3]; omega)
      have hstep : ∀ q : Nat, il[i] = (q : Int) → ∀ x, ks[q]? = some x → lkT ks (il.take (i + 1)) = lkT ks (il.take i) ++ [x] := fun q hq x hx => lkT_snoc hlt hq hx
      have hnx : (0 ≤ il[i] ∧ il[i] < (ks.length : Int)) → ∀ j (h : j < il.length), j < i + 1 → 0 ≤ il[j] ∧ il[j] < (ks.length : Int) := fun hx j h hj => by
        rcases Nat.lt_or_ge j i with h4 | h4
        · exact hin j h h4
        · have : j = i := by omega
          subst this; exact hx
      have hxI : I64 il[i] := hR1 _ (List.getElem_mem hlt)
      generalize il[i] = x at *
      refine vif_split (fun h => ?_) (fun h => ?_)
      · have hx : x < 0 := by simpa using h
        conv => whnf
        exact aend (.tup [tl [], iv (0 : Nat), iv 1]) 0 [] [] [] ⟨[], 0, 1, RTs.bad (hbad (by omega)), rfl, rfl, rfl⟩ rfl trivial (by repeat' (first | rfl | trivial | apply And.intro))
      have hx0 : 0 ≤ x := by simpa using h
      conv => whnf
      refine AIn.mk' i rfl (by rw [List.length_map]; exact hlt) ?_
      conv => whnf
      refine ARd.mapAt hat ?_
      conv => whnf
      refine vif_split (fun h => ?_) (fun h => ?_)
      · have hx : (ks.length : Int) ≤ x := by simpa using h
        conv => whnf
        exact aend (.tup [tl [], iv (0 : Nat), iv 1]) 0 [] [] [] ⟨[], 0, 1, RTs.bad (hbad (by omega)), rfl, rfl, rfl⟩ rfl trivial (by repeat' (first | rfl | trivial | apply And.intro))
      have hx1 : x < (ks.length : Int) := by simp at h; omega
      obtain ⟨q, rfl⟩ : ∃ q : Nat, x = (q : Int) := ⟨x.toNat, by omega⟩
      have hq : q < ks.length := by omega
      have hkq := List.getElem?_eq_getElem hq
      conv => whnf
      refine AIn.mk' i rfl (by rw [List.length_map]; exact hlt) ?_
      conv => whnf
      refine ARd.mapAt hat ?_
      conv => whnf
      refine AIn.mk' q rfl (by rw [List.length_map]; exact hq) ?_
      conv => whnf
      refine ARd.mapAt hkq ?_
      conv => whnf
      have e1 := hstep q rfl ks[q] hkq
      have htl : (lkT ks (il.take i)).length ≤ 512 := by rw [lkT_len, List.length_take]; omega
      refine VReq.mk (app_ok (by simp only [List.length_map, List.length_append, List.length_cons, List.length_nil]; omega) (by kernel_rfl)) ?_
      conv => whnf
      refine AAr.i64 (by omega) ?_
      conv => whnf
      exact aback (i + 1) [(2, .lab 4)] [] rfl (by show il.length - (i + 1) < il.length - i; omega) ⟨hlt, hnx ⟨hx0, hx1⟩⟩ ⟨⟨rfl, rfl, by rw [e1]; exact (enT_snoc _ _).symm⟩, ⟨rfl, rfl, rfl⟩, ⟨rfl, (by repeat' (first | rfl | trivial | apply And.intro))⟩, trivial⟩ ⟨rfl, rfl, trivial⟩
    · have hie : i = il.length := by simp at h; omega
      subst hie
      rw [List.take_length]
      have hl5 : (lkT ks il).length ≤ 512 := by rw [lkT_len]; exact hil
      have hok := lkT_ok k2 il
      have hG : GT b fun l0 r => lkT ks il = l0 := fun l0 r hl ht hb => by
        obtain ⟨_, h2, h3⟩ := hgood l0 r hl ht hb
        rw [h2, h3]
        exact lkT_ix fun x hx => (dsT_mem l0 x).2 hx
      generalize lkT ks il = l at *
      conv => whnf
      have hT := texts2A l hl5 hok
      have hpre := beginsA b (txs l)
      (refine acallF [2] (by kernel_rfl) (hT) ?_ ?_; (focus (repeat' (first | rfl | trivial | apply And.intro))))
      rintro _ _ _ ⟨rfl, rfl, rfl⟩
      conv => whnf
      (refine acall [] (by kernel_rfl) (hpre) rfl ?_ ?_; (focus (repeat' (first | rfl | trivial | apply And.intro))))
      conv => whnf
      refine vif_split (fun h => ?_) (fun h => ?_)
      · have hp : ¬ b.take (txs l).length = txs l := by simpa using h
        conv => whnf
        exact aend (.tup [tl [], iv (0 : Nat), iv 1]) 0 [] [] [] ⟨[], 0, 1, RTs.bad fun l0 r ha hl h => hp (by rw [hG l0 r ha hl h, h, List.take_left' rfl]), rfl, rfl, rfl⟩ rfl trivial (by repeat' (first | rfl | trivial | apply And.intro))
      · have hp : b.take (txs l).length = txs l := by simpa using h
        conv => whnf
        exact aend (.tup [tl l, iv ((txs l).length : Nat), iv 0]) 0 [] [] [] ⟨l, (txs l).length, 0, ⟨hok, hl5, .inl ⟨rfl, rfl, hp⟩, fun l0 r ha hl h => ⟨rfl, hG l0 r ha hl h⟩⟩, rfl, rfl, rfl⟩ rfl trivial ⟨⟨rfl, rfl⟩, congrArg (fun n : Nat => Value.int .i64 (n : Int)) (List.length_map _), rfl, trivial⟩
end Go.Proofs.YtmhpfadbmpipkaaGreat.Cl

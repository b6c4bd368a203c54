/- The walks of the sticky laws Keeps, Spoilt and Any. Condition: as Sx1's. -/
import Derived.Test.YtinpgogjkmmjpaaDoorSx15
set_option linter.unusedVariables false
set_option linter.unusedSimpArgs false
namespace Go.Proofs.YtinpgogjkmmjpaaDoor.Sx
open Go Go.RowKit Go.Proofs.YtinpgogjkmmjpaaDoor.Vc Go.Proofs.YtinpgogjkmmjpaaDoor.Ax Go.Proofs.YtinpgogjkmmjpaaDoor.Ky Go.Proofs.YtinpgogjkmmjpaaDoor.Id Go.Proofs.YtinpgogjkmmjpaaDoor.Sp

/-- Current of a register that is valid -/
theorem cur1G {r : Rg} (g : Good r) (id layer : ByteArray) : AFn Tryd.prog GS 29 [rgA r, sv id, sv layer] 0 [] (Is (optA (curO r id layer))) := by
  have := cur1A r id layer g.fit.s g.fit.len
  rw [(valid_iff r).2 g] at this
  exact this
theorem keysI : (idsL.all keyB) = true := by kernel_rfl
theorem keysY : (layL.all keyB) = true := by kernel_rfl
theorem keyI (n : Nat) : keyB (idOf n) = true := by
  have h : n % 6 < idsL.length := by rw [idsL_len]; omega
  unfold idOf
  rw [List.getD_eq_getElem?_getD, List.getElem?_eq_getElem h]
  exact List.all_eq_true.1 keysI _ (List.getElem_mem h)
theorem keyY (x : Chg) : keyB (layX x) = true := List.all_eq_true.1 keysY _ (layX_mem x)
/-- who has a slot keeps it -/
theorem asg_keeps {r : Rg} (g : Good r) (x : Chg) {s : Sl} (h : curO r (idOf x.id) (layX x) = some s) :
    asgR (readyE (validB r) r r.now) (keyB (idOf x.id) && keyB (layX x)) (heldOf x || !keyB (expX x) || decide (armX x < 1 ∨ 8 < armX x)) r (idOf x.id) (layX x) (expX x) (armX x) 0 r.now = (⟨r.now, r.links, r.slots⟩, s, 0) := by
  have hn := g.now
  have he : readyE (validB r) r r.now = 0 := by
    rw [(valid_iff r).2 g]
    show (if r.now < r.now ∨ 1099511627776 < r.now then (26 : Int) else 0) = 0
    rw [if_neg (by omega)]
  unfold asgR
  rw [he, keyI, keyY, if_neg (by simp), if_neg (by decide)]
  simp only [Bool.and_self, Bool.not_true, cond_false]
  rcases cur_cases r (idOf x.id) (layX x) with ⟨_, e2⟩ | ⟨i, hi, e1, e2⟩
  · rw [e2] at h; cases h
  · rw [e1, if_pos (by omega)]
    rw [e2] at h
    injection h with h
    have e3 : r.slots.getD (i : Int).toNat sl0 = r.slots[i] := by simp [List.getD, List.getElem?_eq_getElem hi]
    rw [e3, h]
set_option maxHeartbeats 4000000 in
set_option maxRecDepth 100000 in
theorem keepsA (l : List Chg) (x : Chg) (hok : ∀ x ∈ l, x.ok) (hx : x.ok) : AFn Tryd.prog GS 11 [chsA l, chA x] 0 [] (Is (bv true)) := by
  refine afn_of Tryd.func11 rfl mixed (by kernel_rfl) ?_
  conv => whnf
  (refine acall [] (by kernel_rfl) (awakeA) rfl ?_ ?_; (focus ((repeat' (first | rfl | trivial | apply And.intro)); done)); (conv => whnf))
  (refine vif_split (fun h => ?_) (fun h => ?_) <;> (try simp only [sEqD, cond_true, cond_false, Bool.not_eq_true', Bool.not_eq_false', decide_eq_true_eq, decide_eq_false_iff_not, beq_iff_eq, bne_iff_ne, beq_eq_false_iff_ne, bne_eq_false_iff_eq, ne_eq, Bool.not_eq_eq_eq_not, Bool.not_true, Bool.not_false, Bool.false_eq_true, Bool.true_eq_false, Decidable.not_not, gt_iff_lt, ge_iff_le, Int.not_lt, Int.not_le] at h) <;> (conv => whnf))
  · exact aret [] (by repeat' (first | rfl | trivial | apply And.intro))
  have hl : l.length ≤ 1000 := by simp only [List.length_map] at h; omega
  clear h
  have hR := reach_rch l
  have hA := reachA l hl hok
  obtain ⟨r, hr⟩ : ∃ r, r = reachR l := ⟨_, rfl⟩
  rw [← hr] at hA hR
  clear hr
  have hn := hR.good.now
  have hln := hR.good.len
  have hft := hR.good.fit
  (refine acallF [] (by kernel_rfl) (hA) ?_ ?_; (focus ((repeat' (first | rfl | trivial | apply And.intro)); done)); rintro _ _ _ ⟨rfl, rfl, rfl⟩; (conv => whnf))
  have hG := asgnA x hx
  have hI := idA x.id hx.id
  have hC := cur1G hR.good (idOf x.id) (layX x)
  have hS := assign1A r (idOf x.id) (layX x) (expX x) 0 (armX x) 0 r.now (heldOf x) (idOf_size _) (layOf_size _) (expOf_size _) hft.s hft.len
  have hkp := fun s => asg_keeps (s := s) hR.good x
  unfold asgE at hS
  generalize asgR (readyE (validB r) r r.now) (keyB (idOf x.id) && keyB (layX x)) (heldOf x || !keyB (expX x) || decide (armX x < 1 ∨ 8 < armX x)) r (idOf x.id) (layX x) (expX x) (armX x) 0 r.now = t at hS hkp
  generalize curO r (idOf x.id) (layX x) = o at hC hkp
  obtain ⟨q, s, e⟩ := t
  have hS : AFn Tryd.prog GS 33 [rgA r, sv (idOf x.id), asA (layX x) (expX x) 0 (armX x) (heldOf x), iv 0, iv r.now] 0 [] (Is (.tup [rgA q, slA s, iv e])) := hS
  generalize heldOf x = hd at hG hS
  generalize layX x = ly at hG hS hC
  generalize armX x = am at hG hS
  generalize expX x = ex at hG hS
  (refine acall [] (by kernel_rfl) (hG) rfl ?_ ?_; (focus ((repeat' (first | rfl | trivial | apply And.intro)); done)); (conv => whnf))
  refine AAr.i64 (by have := hx.id; omega) ?_
  conv => whnf
  (refine acall [] (by kernel_rfl) (hI) rfl ?_ ?_; (focus ((repeat' (first | rfl | trivial | apply And.intro)); done)); (conv => whnf))
  cases o with
  | none =>
    (refine acall [] (by kernel_rfl) (hC) rfl ?_ ?_; (focus ((repeat' (first | rfl | trivial | apply And.intro)); done)); (conv => whnf))
    (refine acallF [] (by kernel_rfl) (hS) ?_ ?_; (focus ((repeat' (first | rfl | trivial | apply And.intro)); done)); rintro _ _ _ ⟨rfl, rfl, rfl⟩; (conv => whnf))
    refine aloopH ws11_1 [13] (fun k : Nat => [(13, iv k)]) (fun _ => True) (fun k => r.slots.length - k) 0 (by kernel_rfl) (fun _ => rfl) (by kernel_rfl) trivial (by repeat' (first | rfl | trivial | apply And.intro)) (by repeat' (first | rfl | trivial | apply And.intro)) ?_
    rintro k _
    conv => whnf
    refine vif_split (fun hj => ?_) (fun hj => ?_)
    · have hj : k < r.slots.length := by simpa using hj
      have hkeep := fun {t : Int} => hR.once.keeps hj (t := t)
      have hsl := (slotB_iff.1 (hR.good.s k hj)).2.2.2
      have hto := hR.good.to_ok k hj
      conv => whnf
      refine AIn.mk' k rfl (by rw [List.length_map]; exact hj) ?_
      conv => whnf
      refine ARd.map hj ?_
      generalize r.slots[k] = a at hkeep hsl hto ⊢
      unfold slotA at hsl
      conv => whnf
      refine vif_split (fun hf => ?_) (fun hf => ?_)
      · have hf : a.fin = 0 := by simpa using hf
        conv => whnf
        refine AAr.i64 (by omega) ?_
        conv => whnf
        refine aloopH ws11_2 [16] (fun j : Nat => [(16, iv (a.from_ + j))]) (fun _ => True) (fun j => (r.now + 1 - a.from_).toNat - j) 0 (by kernel_rfl) (fun _ => rfl) (by kernel_rfl) trivial (by repeat' (first | rfl | trivial | apply And.intro)) ⟨by rw [show (a.from_ + ((0 : Nat) : Int)) = a.from_ from by omega]; exact rfl, trivial⟩ ?_
        rintro j _
        conv => whnf
        refine vif_split (fun ht => ?_) (fun ht => ?_)
        · have ht : a.from_ + (j : Int) < r.now + 1 := by simpa using ht
          have hat := at1G hR.good a.id a.layer (a.from_ + j)
          rw [hkeep ⟨by omega, by omega⟩] at hat
          conv => whnf
          (refine acall [] (by kernel_rfl) (hat) rfl ?_ ?_; (focus ((repeat' (first | rfl | trivial | apply And.intro)); done)); (conv => whnf))
          repeat' (first
            | (refine AEq.mk (by kernel_rfl) rfl rfl ?_; conv => whnf)
            | (refine vif_split (fun h => ?_) (fun h => ?_); (focus (exfalso; simp [sEqD] at h; done)); (conv => whnf))
            | (refine AAr.i64 (by omega) ?_; conv => whnf))
          refine aback (j + 1) [] [] rfl (by show (r.now + 1 - a.from_).toNat - (j + 1) < (r.now + 1 - a.from_).toNat - j; omega) trivial ?_ ?_
          · exact (by repeat' (first | rfl | trivial | apply And.intro))
          · repeat' (first | rfl | trivial | apply And.intro)
            rw [Int.natCast_add, Int.add_assoc]; rfl
        · conv => whnf
          refine AAr.i64 (by omega) ?_
          conv => whnf
          refine aback (k + 1) [] [] rfl (by show r.slots.length - (k + 1) < r.slots.length - k; omega) trivial (by repeat' (first | rfl | trivial | apply And.intro)) (by repeat' (first | rfl | trivial | apply And.intro))
      · have hf : ¬ a.fin = 0 := by simpa using hf
        conv => whnf
        refine aloopH ws11_2 [16] (fun j : Nat => [(16, iv (a.from_ + j))]) (fun _ => True) (fun j => (a.to_ - a.from_).toNat - j) 0 (by kernel_rfl) (fun _ => rfl) (by kernel_rfl) trivial (by repeat' (first | rfl | trivial | apply And.intro)) ⟨by rw [show (a.from_ + ((0 : Nat) : Int)) = a.from_ from by omega]; exact rfl, trivial⟩ ?_
        rintro j _
        conv => whnf
        refine vif_split (fun ht => ?_) (fun ht => ?_)
        · have ht : a.from_ + (j : Int) < a.to_ := by simpa using ht
          have hat := at1G hR.good a.id a.layer (a.from_ + j)
          rw [hkeep ⟨by omega, by omega⟩] at hat
          conv => whnf
          (refine acall [] (by kernel_rfl) (hat) rfl ?_ ?_; (focus ((repeat' (first | rfl | trivial | apply And.intro)); done)); (conv => whnf))
          repeat' (first
            | (refine AEq.mk (by kernel_rfl) rfl rfl ?_; conv => whnf)
            | (refine vif_split (fun h => ?_) (fun h => ?_); (focus (exfalso; simp [sEqD] at h; done)); (conv => whnf))
            | (refine AAr.i64 (by omega) ?_; conv => whnf))
          refine aback (j + 1) [] [] rfl (by show (a.to_ - a.from_).toNat - (j + 1) < (a.to_ - a.from_).toNat - j; omega) trivial ?_ ?_
          · exact (by repeat' (first | rfl | trivial | apply And.intro))
          · repeat' (first | rfl | trivial | apply And.intro)
            rw [Int.natCast_add, Int.add_assoc]; rfl
        · conv => whnf
          refine AAr.i64 (by omega) ?_
          conv => whnf
          refine aback (k + 1) [] [] rfl (by show r.slots.length - (k + 1) < r.slots.length - k; omega) trivial (by repeat' (first | rfl | trivial | apply And.intro)) (by repeat' (first | rfl | trivial | apply And.intro))
    · conv => whnf
      exact aret [] (by repeat' (first | rfl | trivial | apply And.intro))
  | some s' =>
    have hk := hkp s' rfl
    injection hk with hk1 hk2
    injection hk2 with hk2 hk3
    subst hk1; subst hk2; subst hk3
    (refine acall [] (by kernel_rfl) (hC) rfl ?_ ?_; (focus ((repeat' (first | rfl | trivial | apply And.intro)); done)); (conv => whnf))
    (refine acallF [] (by kernel_rfl) (hS) ?_ ?_; (focus ((repeat' (first | rfl | trivial | apply And.intro)); done)); rintro _ _ _ ⟨rfl, rfl, rfl⟩; (conv => whnf))
    repeat' (first
      | (refine AEq.mk (by kernel_rfl) rfl rfl ?_; conv => whnf)
      | (refine vif_split (fun h => ?_) (fun h => ?_); (focus (exfalso; simp [sEqD] at h; done)); (conv => whnf)))
    refine aloopH ws11_1 [13] (fun k : Nat => [(13, iv k)]) (fun _ => True) (fun k => r.slots.length - k) 0 (by kernel_rfl) (fun _ => rfl) (by kernel_rfl) trivial (by repeat' (first | rfl | trivial | apply And.intro)) (by repeat' (first | rfl | trivial | apply And.intro)) ?_
    rintro k _
    conv => whnf
    refine vif_split (fun hj => ?_) (fun hj => ?_)
    · have hj : k < r.slots.length := by simpa using hj
      have hkeep := fun {t : Int} => hR.once.keeps hj (t := t)
      have hsl := (slotB_iff.1 (hR.good.s k hj)).2.2.2
      have hto := hR.good.to_ok k hj
      conv => whnf
      refine AIn.mk' k rfl (by rw [List.length_map]; exact hj) ?_
      conv => whnf
      refine ARd.map hj ?_
      generalize r.slots[k] = a at hkeep hsl hto ⊢
      unfold slotA at hsl
      conv => whnf
      refine vif_split (fun hf => ?_) (fun hf => ?_)
      · have hf : a.fin = 0 := by simpa using hf
        conv => whnf
        refine AAr.i64 (by omega) ?_
        conv => whnf
        refine aloopH ws11_2 [16] (fun j : Nat => [(16, iv (a.from_ + j))]) (fun _ => True) (fun j => (r.now + 1 - a.from_).toNat - j) 0 (by kernel_rfl) (fun _ => rfl) (by kernel_rfl) trivial (by repeat' (first | rfl | trivial | apply And.intro)) ⟨by rw [show (a.from_ + ((0 : Nat) : Int)) = a.from_ from by omega]; exact rfl, trivial⟩ ?_
        rintro j _
        conv => whnf
        refine vif_split (fun ht => ?_) (fun ht => ?_)
        · have ht : a.from_ + (j : Int) < r.now + 1 := by simpa using ht
          have hat := at1G hR.good a.id a.layer (a.from_ + j)
          rw [hkeep ⟨by omega, by omega⟩] at hat
          conv => whnf
          (refine acall [] (by kernel_rfl) (hat) rfl ?_ ?_; (focus ((repeat' (first | rfl | trivial | apply And.intro)); done)); (conv => whnf))
          repeat' (first
            | (refine AEq.mk (by kernel_rfl) rfl rfl ?_; conv => whnf)
            | (refine vif_split (fun h => ?_) (fun h => ?_); (focus (exfalso; simp [sEqD] at h; done)); (conv => whnf))
            | (refine AAr.i64 (by omega) ?_; conv => whnf))
          refine aback (j + 1) [] [] rfl (by show (r.now + 1 - a.from_).toNat - (j + 1) < (r.now + 1 - a.from_).toNat - j; omega) trivial ?_ ?_
          · exact (by repeat' (first | rfl | trivial | apply And.intro))
          · repeat' (first | rfl | trivial | apply And.intro)
            rw [Int.natCast_add, Int.add_assoc]; rfl
        · conv => whnf
          refine AAr.i64 (by omega) ?_
          conv => whnf
          refine aback (k + 1) [] [] rfl (by show r.slots.length - (k + 1) < r.slots.length - k; omega) trivial (by repeat' (first | rfl | trivial | apply And.intro)) (by repeat' (first | rfl | trivial | apply And.intro))
      · have hf : ¬ a.fin = 0 := by simpa using hf
        conv => whnf
        refine aloopH ws11_2 [16] (fun j : Nat => [(16, iv (a.from_ + j))]) (fun _ => True) (fun j => (a.to_ - a.from_).toNat - j) 0 (by kernel_rfl) (fun _ => rfl) (by kernel_rfl) trivial (by repeat' (first | rfl | trivial | apply And.intro)) ⟨by rw [show (a.from_ + ((0 : Nat) : Int)) = a.from_ from by omega]; exact rfl, trivial⟩ ?_
        rintro j _
        conv => whnf
        refine vif_split (fun ht => ?_) (fun ht => ?_)
        · have ht : a.from_ + (j : Int) < a.to_ := by simpa using ht
          have hat := at1G hR.good a.id a.layer (a.from_ + j)
          rw [hkeep ⟨by omega, by omega⟩] at hat
          conv => whnf
          (refine acall [] (by kernel_rfl) (hat) rfl ?_ ?_; (focus ((repeat' (first | rfl | trivial | apply And.intro)); done)); (conv => whnf))
          repeat' (first
            | (refine AEq.mk (by kernel_rfl) rfl rfl ?_; conv => whnf)
            | (refine vif_split (fun h => ?_) (fun h => ?_); (focus (exfalso; simp [sEqD] at h; done)); (conv => whnf))
            | (refine AAr.i64 (by omega) ?_; conv => whnf))
          refine aback (j + 1) [] [] rfl (by show (a.to_ - a.from_).toNat - (j + 1) < (a.to_ - a.from_).toNat - j; omega) trivial ?_ ?_
          · exact (by repeat' (first | rfl | trivial | apply And.intro))
          · repeat' (first | rfl | trivial | apply And.intro)
            rw [Int.natCast_add, Int.add_assoc]; rfl
        · conv => whnf
          refine AAr.i64 (by omega) ?_
          conv => whnf
          refine aback (k + 1) [] [] rfl (by show r.slots.length - (k + 1) < r.slots.length - k; omega) trivial (by repeat' (first | rfl | trivial | apply And.intro)) (by repeat' (first | rfl | trivial | apply And.intro))
    · conv => whnf
      exact aret [] (by repeat' (first | rfl | trivial | apply And.intro))
end Go.Proofs.YtinpgogjkmmjpaaDoor.Sx

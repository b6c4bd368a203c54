/- The walk of the reference's Samples. Condition: the library's table of spaces (GS); ascending times; sizes. -/
import Derived.Test.YtmnjmdajgilhiaaDoorJ3
import Derived.Test.YtmnjmdajgilhiaaDoorJy
set_option linter.unusedVariables false
set_option linter.unusedSimpArgs false
namespace Go.Proofs.YtmnjmdajgilhiaaDoor.Cl
open Go Go.RowKit Go.Proofs Go.Proofs.YtmnjmdajgilhiaaDoor.Vc Go.Proofs.YtmnjmdajgilhiaaDoor.Ax Go.Proofs.YtmnjmdajgilhiaaDoor.Ky Go.Proofs.YtmnjmdajgilhiaaDoor.Id
attribute [local irreducible] loadVar storeVar Instr.indexAt Instr.index Instr.sliceAt Instr.makeSlice Instr.lookup Instr.mapUpdate Instr.range Instr.next Instr.entry Instr.makeMap Builtin.append_ Builtin.copy_ Builtin.len_ Builtin.min_ Builtin.max_ Builtin.cap_ Builtin.delete_ Builtin.clear_ convert binOp eqGuard Op.unary Calls
/-- whose each event is -/
def owL (ls : List Lk) (xs : List Ex) (l : List Ev) : Li := l.map fun e => owI ls xs e.id e.time
def fillL0 (A : Li) (i : Nat) : Li := A.take i ++ List.replicate (A.length - i) 0
theorem fillL0_len {A : Li} {i : Nat} (h : i ≤ A.length) : (fillL0 A i).length = A.length := by unfold fillL0; simp; omega
theorem fillL0_set {A : Li} {i : Nat} {a : Int} (h : A[i]? = some a) : (fillL0 A i).set i a = fillL0 A (i + 1) := by
  obtain ⟨hi, rfl⟩ := List.getElem?_eq_some_iff.1 h
  unfold fillL0
  rw [List.take_succ_eq_append_getElem hi, List.set_append_right _ _ (by simp; omega)]
  simp only [List.length_take]
  rw [show i - min i A.length = 0 by omega, show A.length - i = (A.length - (i + 1)) + 1 by omega, List.replicate_succ, List.set_cons_zero, List.append_assoc]
  rfl
theorem owI_eq {ls : List Lk} {xs : List Ex} {id : By} {t : Int} {k : Nat} : owI ls xs id t = (k : Int) ↔ owO ls xs id t = some k := by
  unfold owI
  cases owO ls xs id t with
  | none => simp; try omega
  | some j => simp; try omega
set_option maxHeartbeats 16000000 in
set_option maxRecDepth 100000 in
theorem samples2A (l : List Ev) (name : By) (m : Mt) (mark : Int) (hB : EvB l) (hasc : l.Pairwise fun a b => a.time ≤ b.time) (z1 : m.name.length ≤ 140737488355328) (z2 : m.below.length ≤ 140737488355328) :
    AFn Tryd.prog GS 29 [el l, tv name, mtA m, iv mark] 0 [] (Is (smL (if mtC m = 0 then smpS l name m mark else []))) := by
  have hlen := hB.len
  have hls : (lksE l).length ≤ 50000 := by unfold lksE; rw [List.length_map]; have := ofK_le 3 l; omega
  refine afn_of Tryd.func29 rfl mixed (by kernel_rfl) ?_
  conv => whnf
  (refine acall [] (by kernel_rfl) (mchk2 m z1 z2) rfl ?_ ?_; (focus (repeat' (first | rfl | trivial | apply And.intro))))
  conv => whnf
  refine vif_split (fun h => ?_) (fun h => ?_)
  · rw [if_neg (by simpa using h)]
    conv => whnf
    exact aret [] (by repeat' (first | rfl | trivial | apply And.intro))
  have hm : mtC m = 0 := by simpa using h
  rw [if_pos hm]
  obtain ⟨rw, rc, rl, rb⟩ := mtC_rng hm
  have htm := hB.tim hm name
  conv => whnf
  (refine acallF [] (by kernel_rfl) (first2A l name (by omega) hasc) ?_ ?_; (focus (repeat' (first | rfl | trivial | apply And.intro))))
  rintro _ _ _ ⟨rfl, rfl, rfl⟩
  have hall := smpN_all l name m mark
  have hsucc := fun (i : Nat) => smpN_succ (l := l) (name := name) (m := m) (mark := mark) (i := i)
  have hsl := smpN_len l name m mark
  have hse : ∀ k x, smpE l name m k x = ⟨x, lim m (mtV m (insE (lksE l) (fstS l name) m.window k x (ofK 2 l))), lim m (mtB m (insE (lksE l) (fstS l name) m.window k x (ofK 2 l))), if m.before = 0 then 0 else lim m (mtV m (befE (lksE l) m.before x (ofK 2 l))), mixE (lksE l) (fstS l name) name m.window k x (ofK 1 l)⟩ := fun _ _ => rfl
  have hxl : (fstS l name).length ≤ 10000 := Nat.le_trans (fstX_len _ _ _) (Nat.le_trans (ofK_le 1 l) hlen)
  have hown := fun id t => owner2A (G := GS) l (fstS l name) id t (by omega) (by omega)
  generalize fstS l name = xs at *
  have hlk := links2A (G := GS) l (by omega)
  generalize hlsx : lksE l = ls at *
  conv => whnf
  refine AMk.mk' (by_ := 8) l.length (by rw [List.length_map]) (by rw [List.length_map]) ⟨by omega, by unfold maxLen; omega⟩ ?_
  have hol : (owL ls xs l).length = l.length := by unfold owL; simp
  conv => whnf
  refine aloop ws29_1 2 [11] (fun i : Nat => [(11, iv i)]) (fun i => [(0, mvB m), (1, .rows 3 1 ((fillL0 (owL ls xs l) i).map enI))]) (fun i => i ≤ l.length) (fun i => l.length - i) [] [] 0 (by kernel_rfl) (fun _ => rfl) rfl (Nat.zero_le _) ⟨(by repeat' (first | rfl | trivial | apply And.intro)), ⟨rfl, rfl, ?_⟩, trivial⟩ (by repeat' (first | rfl | trivial | apply And.intro)) ?_
  · unfold fillL0
    rw [List.take_zero, List.nil_append, Nat.sub_zero, hol, List.map_replicate]
    rfl
  intro i hi
  conv => whnf
  refine vif_split (fun h => ?_) (fun h => ?_)
  · have hlt : i < l.length := by simp at h; omega
    have hg := List.getElem?_eq_getElem hlt
    have hoi : (owL ls xs l)[i]? = some (owI ls xs l[i].id l[i].time) := by unfold owL; rw [List.getElem?_map, hg]; rfl
    have hst := fillL0_set hoi
    have hfl := fillL0_len (A := owL ls xs l) (i := i) (by omega)
    generalize l[i] = e at *
    conv => whnf
    (refine adraw pln29 [1] (by kernel_rfl) ?_; conv => whnf)
    have ho := hown e.id e.time
    repeat' (first
      | (refine And.intro ?_ ?_ <;> (conv => whnf))
      | (refine AIn.mk' i rfl (by rw [List.length_map]; exact hlt) ?_; conv => whnf)
      | (refine AIn.mk' i rfl (by rw [List.length_map, hfl, hol]; exact hlt) ?_; conv => whnf)
      | (refine ARd.mapAt hg ?_; conv => whnf)
      | (refine ARd.map (by rw [hfl, hol]; exact hlt) ?_; conv => whnf)
      | ((refine acall [] (by kernel_rfl) (ho) rfl ?_ ?_; (focus ((repeat' (first | rfl | trivial | apply And.intro)); done)); (conv => whnf))))
    refine AAr.i64 (by omega) ?_
    conv => whnf
    refine aback (i + 1) [] [] rfl (by show l.length - (i + 1) < l.length - i; omega) hlt ⟨(by repeat' (first | rfl | trivial | apply And.intro)), ⟨rfl, rfl, ?_⟩, trivial⟩ (by repeat' (first | rfl | trivial | apply And.intro))
    rw [← hst, List.map_set]
    rfl
  have hie : i = l.length := by simp at h; omega
  subst hie
  have hfa : fillL0 (owL ls xs l) l.length = owL ls xs l := by unfold fillL0; rw [List.take_of_length_le (by omega), hol]; simp
  rw [hfa]
  have hog : ∀ (i : Nat) (e : Ev), l[i]? = some e → (owL ls xs l)[i]? = some (owI ls xs e.id e.time) := fun i e h => by unfold owL; rw [List.getElem?_map, h]; rfl
  generalize owL ls xs l = ow at *
  conv => whnf
  refine aloop ws29_2 3 [12, 13] (fun k : Nat => [(12, .own 2), (13, iv k)]) (fun k => [(0, mvB m), (1, .rows 3 1 (ow.map enI)), (2, .rows 42 10 ((smpN l name m mark k).map smF))]) (fun k => k ≤ xs.length) (fun k => xs.length - k) [(2, .nil)] [] 0 (by kernel_rfl) (fun _ => rfl) rfl (Nat.zero_le _) (by repeat' (first | rfl | trivial | apply And.intro)) (by repeat' (first | rfl | trivial | apply And.intro)) ?_
  intro k hk
  conv => whnf
  refine vif_split (fun h => ?_) (fun h => ?_)
  rotate_left 1
  · have hke : k = xs.length := by simp at h; omega
    subst hke
    rw [hall]
    conv => whnf
    exact aret [2] (by repeat' (first | rfl | trivial | apply And.intro))
  have hlk2 : k < xs.length := by simp at h; omega
  have hgx := List.getElem?_eq_getElem hlk2
  have htx := htm.xs _ (List.getElem_mem hlk2)
  have hs := hsucc k hlk2
  have hownk : ∀ id t, owO ls xs id t = some k → xs[k].time ≤ t := fun id t ho => by
    obtain ⟨_, hp⟩ := owO_lt ho
    unfold owP at hp
    simp only [Bool.and_eq_true, decide_eq_true_eq] at hp
    exact hp.1
  have hse := hse k xs[k]
  have hsk := hsl k
  generalize xs[k] = x at *
  generalize smpN l name m mark k = out at *
  conv => whnf
  (refine adraw pln29 [] (by kernel_rfl) ?_; conv => whnf)
  refine AIn.mk' k rfl (by rw [List.length_map]; exact hlk2) ?_
  conv => whnf
  refine ARd.mapAt hgx ?_
  conv => whnf
  refine AAr.i64 (by omega) ?_
  conv => whnf
  refine vif_split (fun h1 => ?_) (fun h1 => ?_)
  · rw [if_neg (by simp at h1; omega)] at hs
    conv => whnf
    refine AAr.i64 (by omega) ?_
    conv => whnf
    exact aback (k + 1) [(2, .lab 2)] [] rfl (by show xs.length - (k + 1) < xs.length - k; omega) hlk2 ⟨(by repeat' (first | rfl | trivial | apply And.intro)), (by repeat' (first | rfl | trivial | apply And.intro)), ⟨rfl, rfl, by rw [hs]⟩, trivial⟩ (by repeat' (first | rfl | trivial | apply And.intro))
  rw [if_pos (by simp at h1; omega)] at hs
  conv => whnf
  refine AIn.mk' k rfl (by rw [List.length_map]; exact hlk2) ?_
  conv => whnf
  refine ARd.mapAt hgx ?_
  conv => whnf
  have hu2 := AFn.frz (until2A (G := GS) ls x.time (by omega))
  have hul := unt_len x.time ls
  (refine adraw pln29 [] (by kernel_rfl) ?_; conv => whnf)
  repeat' (first
    | (refine And.intro ?_ ?_ <;> (conv => whnf))
    | (refine AIn.mk' k rfl (by rw [List.length_map]; exact hlk2) ?_; conv => whnf)
    | (refine ARd.mapAt hgx ?_; conv => whnf)
    | ((refine acallF [] (by kernel_rfl) (hlk) ?_ ?_; (focus ((repeat' (first | rfl | trivial | apply And.intro)); done)); rintro _ _ _ ⟨rfl, rfl, rfl⟩; (conv => whnf)))
    | ((refine acallF [] (by kernel_rfl) (hu2) ?_ ?_; (focus ((repeat' (first | rfl | trivial | apply And.intro)); done)); rintro _ _ _ ⟨rfl, rfl, rfl⟩; (conv => whnf))))
  refine aloop ws29_3 6 [15, 16, 18] (fun i : Nat => [(15, .own 4), (16, .own 5), (18, iv i)]) (fun i => [(0, mvB m), (1, .rows 3 1 (ow.map enI)), (2, .rows 42 10 (out.map smF)), (3, .var 42 ((smF ⟨x, 0, 0, 0, mixE ls xs name m.window k x (ofK 1 (l.take i))⟩).map FV.up)), (4, .rows 32 10 ((insE ls xs m.window k x (ofK 2 (l.take i))).map enE)), (5, .rows 32 10 ((befE ls m.before x (ofK 2 (l.take i))).map enE))]) (fun i => i ≤ l.length) (fun i => l.length - i) [(4, .nil), (5, .nil)] [] 0 (by kernel_rfl) (fun _ => rfl) rfl (Nat.zero_le _) (by repeat' (first | rfl | trivial | apply And.intro)) (by repeat' (first | rfl | trivial | apply And.intro)) ?_
  intro i hi
  conv => whnf
  refine vif_split (fun h2 => ?_) (fun h2 => ?_)
  rotate_left 1
  · have hie : i = l.length := by simp at h2; omega
    subst hie
    rw [List.take_length]
    have hMe : MeasL (insE ls xs m.window k x (ofK 2 l)) := hB.meas (insE_sub _ _ _ _ _ _) (Nat.le_trans (insE_len _ _ _ _ _ _) (Nat.le_trans (ofK_le 2 l) hlen))
    have hMb : MeasL (befE ls m.before x (ofK 2 l)) := hB.meas (befE_sub _ _ _ _) (Nat.le_trans (befE_len _ _ _ _) (Nat.le_trans (ofK_le 2 l) hlen))
    generalize insE ls xs m.window k x (ofK 2 l) = ins at *
    generalize befE ls m.before x (ofK 2 l) = bf at *
    generalize mixE ls xs name m.window k x (ofK 1 l) = mx at *
    conv => whnf
    refine acall [4] (by kernel_rfl) (valueRA m ins hm hMe z1 z2) rfl ?_ ?_; (focus (repeat' (first | rfl | trivial | apply And.intro)))
    conv => whnf
    refine vif_split (fun h3 => ?_) (fun h3 => ?_)
    rotate_left 1
    · have hb0 : m.before = 0 := by simp at h3; omega
      rw [if_pos hb0] at hse
      conv => whnf
      refine VReq.mk (app_ok (by simp only [List.length_map, List.length_cons, List.length_nil]; omega) (by kernel_rfl)) ?_
      conv => whnf
      refine AAr.i64 (by omega) ?_
      conv => whnf
      refine aback (k + 1) [(2, .lab 7)] [] rfl (by show xs.length - (k + 1) < xs.length - k; omega) hlk2 ⟨(by repeat' (first | rfl | trivial | apply And.intro)), (by repeat' (first | rfl | trivial | apply And.intro)), ⟨rfl, rfl, ?_⟩, trivial⟩ (by repeat' (first | rfl | trivial | apply And.intro))
      rw [hs, hse, List.map_append]
      rfl
    rw [if_neg (show ¬ m.before = 0 by simp at h3; omega)] at hse
    conv => whnf
    refine acall [5] (by kernel_rfl) (valueRA m bf hm hMb z1 z2) rfl ?_ ?_; (focus (repeat' (first | rfl | trivial | apply And.intro)))
    conv => whnf
    refine VReq.mk (app_ok (by simp only [List.length_map, List.length_cons, List.length_nil]; omega) (by kernel_rfl)) ?_
    conv => whnf
    refine AAr.i64 (by omega) ?_
    conv => whnf
    refine aback (k + 1) [(2, .lab 7)] [] rfl (by show xs.length - (k + 1) < xs.length - k; omega) hlk2 ⟨(by repeat' (first | rfl | trivial | apply And.intro)), (by repeat' (first | rfl | trivial | apply And.intro)), ⟨rfl, rfl, ?_⟩, trivial⟩ (by repeat' (first | rfl | trivial | apply And.intro))
    rw [hs, hse, List.map_append]
    rfl
  have hlt : i < l.length := by simp at h2; omega
  have hg := List.getElem?_eq_getElem hlt
  have hoi := hog i _ hg
  have hte := hB.time _ (List.getElem_mem hlt)
  have ho1 := ofK_take (k := 1) hlt
  have ho2 := ofK_take (k := 2) hlt
  have hl1 : (insE ls xs m.window k x (ofK 2 (l.take i))).length ≤ 10000 := Nat.le_trans (insE_len _ _ _ _ _ _) (Nat.le_trans (ofK_le _ _) (by rw [List.length_take]; omega))
  have hl2 : (befE ls m.before x (ofK 2 (l.take i))).length ≤ 10000 := Nat.le_trans (befE_len _ _ _ _) (Nat.le_trans (ofK_le _ _) (by rw [List.length_take]; omega))
  generalize l[i] = e at *
  have hI : insE ls xs m.window k x (ofK 2 (l.take (i + 1))) = if e.kind = 2 ∧ owO ls xs e.id e.time = some k ∧ e.time < x.time + m.window then insE ls xs m.window k x (ofK 2 (l.take i)) ++ [e] else insE ls xs m.window k x (ofK 2 (l.take i)) := by
    rw [ho2]
    by_cases hk2 : e.kind = 2
    · rw [if_pos hk2, insE_snoc]; simp only [hk2, true_and]
    · rw [if_neg hk2, if_neg fun h => hk2 h.1]
  have hBf : befE ls m.before x (ofK 2 (l.take (i + 1))) = if e.kind = 2 ∧ x.time - m.before ≤ e.time ∧ e.time < x.time ∧ rtA ls x.time e.id = rtA ls x.time x.id then befE ls m.before x (ofK 2 (l.take i)) ++ [e] else befE ls m.before x (ofK 2 (l.take i)) := by
    rw [ho2]
    by_cases hk2 : e.kind = 2
    · rw [if_pos hk2, befE_snoc]; simp only [hk2, true_and]
    · rw [if_neg hk2, if_neg fun h => hk2 h.1]
  have hMx : mixE ls xs name m.window k x (ofK 1 (l.take (i + 1))) = if e.kind = 1 ∧ owO ls xs e.id e.time = some k ∧ e.time < x.time + m.window then mixE ls xs name m.window k x (ofK 1 (l.take i)) || (decide (e.name = name) && !decide (e.arm = x.arm)) else mixE ls xs name m.window k x (ofK 1 (l.take i)) := by
    rw [ho1]
    by_cases hk1 : e.kind = 1
    · rw [if_pos hk1, mixE_snoc]; simp only [hk1, true_and]
    · rw [if_neg hk1, if_neg fun h => hk1 h.1]
  clear ho1 ho2
  generalize insE ls xs m.window k x (ofK 2 (l.take i)) = wi at *
  generalize befE ls m.before x (ofK 2 (l.take i)) = bf at *
  generalize mixE ls xs name m.window k x (ofK 1 (l.take i)) = mx at *
  conv => whnf
  refine AIn.mk' i rfl (by rw [List.length_map]; exact hlt) ?_
  conv => whnf
  refine ARd.mapAt hg ?_
  conv => whnf
  have hol2 : i < ow.length := by omega
  by_cases hk2 : e.kind = 2
  · rw [if_neg fun h => by omega] at hMx
    (refine adraw pln29 [] (by kernel_rfl) ?_; conv => whnf)
    refine AIn.mk' i rfl (by rw [List.length_map]; exact hol2) ?_
    conv => whnf
    refine ARd.mapAt hoi ?_
    conv => whnf
    refine vif_split (fun h3 => ?_) (fun h3 => ?_)
    rotate_left 1
    · rw [if_neg fun h => by rw [owI_eq.2 h.2.1] at h3; simp at h3] at hI
      conv => whnf
      (refine adraw pln29 [] (by kernel_rfl) ?_; conv => whnf)
      refine vif_split (fun q => ?_) (fun q => ?_)
      rotate_left 1
      · exfalso; simp at q; omega
      conv => whnf
      refine AIn.mk' k rfl (by rw [List.length_map]; exact hlk2) ?_
      conv => whnf
      refine ARd.mapAt hgx ?_
      conv => whnf
      refine AAr.i64 (by omega) ?_
      conv => whnf
      refine vif_split (fun u1 => ?_) (fun u1 => ?_)
      rotate_left 1
      · skip
        rw [if_neg (fun h => by simp at u1; omega)] at hBf
        conv => whnf
        refine AAr.i64 (by omega) ?_
        conv => whnf
        exact aback (i + 1) [(4, .lab 4), (5, .lab 5)] [] rfl (by show l.length - (i + 1) < l.length - i; omega) hlt ⟨(by repeat' (first | rfl | trivial | apply And.intro)), (by repeat' (first | rfl | trivial | apply And.intro)), (by repeat' (first | rfl | trivial | apply And.intro)), ⟨rfl, by rw [hMx]; repeat' (first | rfl | trivial | apply And.intro)⟩, ⟨rfl, rfl, by rw [hI]; skip⟩, ⟨rfl, rfl, by rw [hBf]⟩, trivial⟩ (by repeat' (first | rfl | trivial | apply And.intro))
      conv => whnf
      refine AIn.mk' k rfl (by rw [List.length_map]; exact hlk2) ?_
      conv => whnf
      refine ARd.mapAt hgx ?_
      conv => whnf
      refine vif_split (fun u2 => ?_) (fun u2 => ?_)
      rotate_left 1
      · skip
        rw [if_neg (fun h => by simp at u2; omega)] at hBf
        conv => whnf
        refine AAr.i64 (by omega) ?_
        conv => whnf
        exact aback (i + 1) [(4, .lab 4), (5, .lab 5)] [] rfl (by show l.length - (i + 1) < l.length - i; omega) hlt ⟨(by repeat' (first | rfl | trivial | apply And.intro)), (by repeat' (first | rfl | trivial | apply And.intro)), (by repeat' (first | rfl | trivial | apply And.intro)), ⟨rfl, by rw [hMx]; repeat' (first | rfl | trivial | apply And.intro)⟩, ⟨rfl, rfl, by rw [hI]; skip⟩, ⟨rfl, rfl, by rw [hBf]⟩, trivial⟩ (by repeat' (first | rfl | trivial | apply And.intro))
      conv => whnf
      refine AIn.mk' k rfl (by rw [List.length_map]; exact hlk2) ?_
      conv => whnf
      refine ARd.mapAt hgx ?_
      conv => whnf
      have sm := same2A (G := GS) (unt x.time ls) (ba e.id) (ba x.id) (by omega)
      (refine acall [] (by kernel_rfl) (sm) rfl ?_ ?_; (focus ((repeat' (first | rfl | trivial | apply And.intro)); done)); (conv => whnf))
      refine vif_split (fun u3 => ?_) (fun u3 => ?_)
      rotate_left 1
      · skip
        rw [if_neg (fun h => (of_decide_eq_false u3) h.2.2.2)] at hBf
        conv => whnf
        refine AAr.i64 (by omega) ?_
        conv => whnf
        exact aback (i + 1) [(4, .lab 4), (5, .lab 5)] [] rfl (by show l.length - (i + 1) < l.length - i; omega) hlt ⟨(by repeat' (first | rfl | trivial | apply And.intro)), (by repeat' (first | rfl | trivial | apply And.intro)), (by repeat' (first | rfl | trivial | apply And.intro)), ⟨rfl, by rw [hMx]; repeat' (first | rfl | trivial | apply And.intro)⟩, ⟨rfl, rfl, by rw [hI]; skip⟩, ⟨rfl, rfl, by rw [hBf]⟩, trivial⟩ (by repeat' (first | rfl | trivial | apply And.intro))
      rw [if_pos ⟨hk2, by simp at u1; omega, by simp at u2; omega, of_decide_eq_true u3⟩] at hBf
      conv => whnf
      refine VReq.mk (app_ok (by simp only [List.length_map, List.length_cons, List.length_nil]; omega) (by kernel_rfl)) ?_
      conv => whnf
      refine AAr.i64 (by omega) ?_
      conv => whnf
      refine aback (i + 1) [(4, .lab 4), (5, .lab 8)] [] rfl (by show l.length - (i + 1) < l.length - i; omega) hlt ⟨(by repeat' (first | rfl | trivial | apply And.intro)), (by repeat' (first | rfl | trivial | apply And.intro)), (by repeat' (first | rfl | trivial | apply And.intro)), ⟨rfl, by rw [hMx]; repeat' (first | rfl | trivial | apply And.intro)⟩, ⟨rfl, rfl, by rw [hI]; skip⟩, ⟨rfl, rfl, ?_⟩, trivial⟩ (by repeat' (first | rfl | trivial | apply And.intro))
      rw [hBf, List.map_append]
      rfl
    have ho : owO ls xs e.id e.time = some k := owI_eq.1 (by simpa using h3)
    have htg := hownk _ _ ho
    conv => whnf
    refine AIn.mk' k rfl (by rw [List.length_map]; exact hlk2) ?_
    conv => whnf
    refine ARd.mapAt hgx ?_
    conv => whnf
    refine vif_split (fun q => ?_) (fun q => ?_)
    rotate_left 1
    · exfalso; simp at q; omega
    conv => whnf
    refine AIn.mk' k rfl (by rw [List.length_map]; exact hlk2) ?_
    conv => whnf
    refine ARd.mapAt hgx ?_
    conv => whnf
    refine AAr.i64 (by omega) ?_
    conv => whnf
    refine vif_split (fun h4 => ?_) (fun h4 => ?_)
    rotate_left 1
    · rw [if_neg fun h => by simp at h4; omega] at hI
      conv => whnf
      (refine adraw pln29 [] (by kernel_rfl) ?_; conv => whnf)
      refine vif_split (fun q => ?_) (fun q => ?_)
      rotate_left 1
      · exfalso; simp at q; omega
      conv => whnf
      refine AIn.mk' k rfl (by rw [List.length_map]; exact hlk2) ?_
      conv => whnf
      refine ARd.mapAt hgx ?_
      conv => whnf
      refine AAr.i64 (by omega) ?_
      conv => whnf
      refine vif_split (fun u1 => ?_) (fun u1 => ?_)
      rotate_left 1
      · skip
        rw [if_neg (fun h => by simp at u1; omega)] at hBf
        conv => whnf
        refine AAr.i64 (by omega) ?_
        conv => whnf
        exact aback (i + 1) [(4, .lab 4), (5, .lab 5)] [] rfl (by show l.length - (i + 1) < l.length - i; omega) hlt ⟨(by repeat' (first | rfl | trivial | apply And.intro)), (by repeat' (first | rfl | trivial | apply And.intro)), (by repeat' (first | rfl | trivial | apply And.intro)), ⟨rfl, by rw [hMx]; repeat' (first | rfl | trivial | apply And.intro)⟩, ⟨rfl, rfl, by rw [hI]; skip⟩, ⟨rfl, rfl, by rw [hBf]⟩, trivial⟩ (by repeat' (first | rfl | trivial | apply And.intro))
      conv => whnf
      refine AIn.mk' k rfl (by rw [List.length_map]; exact hlk2) ?_
      conv => whnf
      refine ARd.mapAt hgx ?_
      conv => whnf
      refine vif_split (fun u2 => ?_) (fun u2 => ?_)
      rotate_left 1
      · skip
        rw [if_neg (fun h => by simp at u2; omega)] at hBf
        conv => whnf
        refine AAr.i64 (by omega) ?_
        conv => whnf
        exact aback (i + 1) [(4, .lab 4), (5, .lab 5)] [] rfl (by show l.length - (i + 1) < l.length - i; omega) hlt ⟨(by repeat' (first | rfl | trivial | apply And.intro)), (by repeat' (first | rfl | trivial | apply And.intro)), (by repeat' (first | rfl | trivial | apply And.intro)), ⟨rfl, by rw [hMx]; repeat' (first | rfl | trivial | apply And.intro)⟩, ⟨rfl, rfl, by rw [hI]; skip⟩, ⟨rfl, rfl, by rw [hBf]⟩, trivial⟩ (by repeat' (first | rfl | trivial | apply And.intro))
      conv => whnf
      refine AIn.mk' k rfl (by rw [List.length_map]; exact hlk2) ?_
      conv => whnf
      refine ARd.mapAt hgx ?_
      conv => whnf
      have sm := same2A (G := GS) (unt x.time ls) (ba e.id) (ba x.id) (by omega)
      (refine acall [] (by kernel_rfl) (sm) rfl ?_ ?_; (focus ((repeat' (first | rfl | trivial | apply And.intro)); done)); (conv => whnf))
      refine vif_split (fun u3 => ?_) (fun u3 => ?_)
      rotate_left 1
      · skip
        rw [if_neg (fun h => (of_decide_eq_false u3) h.2.2.2)] at hBf
        conv => whnf
        refine AAr.i64 (by omega) ?_
        conv => whnf
        exact aback (i + 1) [(4, .lab 4), (5, .lab 5)] [] rfl (by show l.length - (i + 1) < l.length - i; omega) hlt ⟨(by repeat' (first | rfl | trivial | apply And.intro)), (by repeat' (first | rfl | trivial | apply And.intro)), (by repeat' (first | rfl | trivial | apply And.intro)), ⟨rfl, by rw [hMx]; repeat' (first | rfl | trivial | apply And.intro)⟩, ⟨rfl, rfl, by rw [hI]; skip⟩, ⟨rfl, rfl, by rw [hBf]⟩, trivial⟩ (by repeat' (first | rfl | trivial | apply And.intro))
      rw [if_pos ⟨hk2, by simp at u1; omega, by simp at u2; omega, of_decide_eq_true u3⟩] at hBf
      conv => whnf
      refine VReq.mk (app_ok (by simp only [List.length_map, List.length_cons, List.length_nil]; omega) (by kernel_rfl)) ?_
      conv => whnf
      refine AAr.i64 (by omega) ?_
      conv => whnf
      refine aback (i + 1) [(4, .lab 4), (5, .lab 8)] [] rfl (by show l.length - (i + 1) < l.length - i; omega) hlt ⟨(by repeat' (first | rfl | trivial | apply And.intro)), (by repeat' (first | rfl | trivial | apply And.intro)), (by repeat' (first | rfl | trivial | apply And.intro)), ⟨rfl, by rw [hMx]; repeat' (first | rfl | trivial | apply And.intro)⟩, ⟨rfl, rfl, by rw [hI]; skip⟩, ⟨rfl, rfl, ?_⟩, trivial⟩ (by repeat' (first | rfl | trivial | apply And.intro))
      rw [hBf, List.map_append]
      rfl
    rw [if_pos ⟨hk2, ho, by simpa using h4⟩] at hI
    conv => whnf
    refine vif_split (fun q => ?_) (fun q => ?_)
    rotate_left 1
    · exfalso; simp at q; omega
    conv => whnf
    refine VReq.mk (app_ok (by simp only [List.length_map, List.length_cons, List.length_nil]; omega) (by kernel_rfl)) ?_
    conv => whnf
    (refine adraw pln29 [] (by kernel_rfl) ?_; conv => whnf)
    refine vif_split (fun q => ?_) (fun q => ?_)
    · exfalso; simp at q; omega
    conv => whnf
    conv => whnf
    (refine adraw pln29 [] (by kernel_rfl) ?_; conv => whnf)
    refine vif_split (fun q => ?_) (fun q => ?_)
    rotate_left 1
    · exfalso; simp at q; omega
    conv => whnf
    refine AIn.mk' k rfl (by rw [List.length_map]; exact hlk2) ?_
    conv => whnf
    refine ARd.mapAt hgx ?_
    conv => whnf
    refine AAr.i64 (by omega) ?_
    conv => whnf
    refine vif_split (fun u1 => ?_) (fun u1 => ?_)
    rotate_left 1
    · skip
      rw [if_neg (fun h => by simp at u1; omega)] at hBf
      conv => whnf
      refine AAr.i64 (by omega) ?_
      conv => whnf
      exact aback (i + 1) [(4, .lab 8), (5, .lab 5)] [] rfl (by show l.length - (i + 1) < l.length - i; omega) hlt ⟨(by repeat' (first | rfl | trivial | apply And.intro)), (by repeat' (first | rfl | trivial | apply And.intro)), (by repeat' (first | rfl | trivial | apply And.intro)), ⟨rfl, by rw [hMx]; repeat' (first | rfl | trivial | apply And.intro)⟩, ⟨rfl, rfl, by rw [hI]; (rw [List.map_append]; rfl)⟩, ⟨rfl, rfl, by rw [hBf]⟩, trivial⟩ (by repeat' (first | rfl | trivial | apply And.intro))
    conv => whnf
    refine AIn.mk' k rfl (by rw [List.length_map]; exact hlk2) ?_
    conv => whnf
    refine ARd.mapAt hgx ?_
    conv => whnf
    refine vif_split (fun u2 => ?_) (fun u2 => ?_)
    rotate_left 1
    · skip
      rw [if_neg (fun h => by simp at u2; omega)] at hBf
      conv => whnf
      refine AAr.i64 (by omega) ?_
      conv => whnf
      exact aback (i + 1) [(4, .lab 8), (5, .lab 5)] [] rfl (by show l.length - (i + 1) < l.length - i; omega) hlt ⟨(by repeat' (first | rfl | trivial | apply And.intro)), (by repeat' (first | rfl | trivial | apply And.intro)), (by repeat' (first | rfl | trivial | apply And.intro)), ⟨rfl, by rw [hMx]; repeat' (first | rfl | trivial | apply And.intro)⟩, ⟨rfl, rfl, by rw [hI]; (rw [List.map_append]; rfl)⟩, ⟨rfl, rfl, by rw [hBf]⟩, trivial⟩ (by repeat' (first | rfl | trivial | apply And.intro))
    conv => whnf
    refine AIn.mk' k rfl (by rw [List.length_map]; exact hlk2) ?_
    conv => whnf
    refine ARd.mapAt hgx ?_
    conv => whnf
    have sm := same2A (G := GS) (unt x.time ls) (ba e.id) (ba x.id) (by omega)
    (refine acall [] (by kernel_rfl) (sm) rfl ?_ ?_; (focus ((repeat' (first | rfl | trivial | apply And.intro)); done)); (conv => whnf))
    refine vif_split (fun u3 => ?_) (fun u3 => ?_)
    rotate_left 1
    · skip
      rw [if_neg (fun h => (of_decide_eq_false u3) h.2.2.2)] at hBf
      conv => whnf
      refine AAr.i64 (by omega) ?_
      conv => whnf
      exact aback (i + 1) [(4, .lab 8), (5, .lab 5)] [] rfl (by show l.length - (i + 1) < l.length - i; omega) hlt ⟨(by repeat' (first | rfl | trivial | apply And.intro)), (by repeat' (first | rfl | trivial | apply And.intro)), (by repeat' (first | rfl | trivial | apply And.intro)), ⟨rfl, by rw [hMx]; repeat' (first | rfl | trivial | apply And.intro)⟩, ⟨rfl, rfl, by rw [hI]; (rw [List.map_append]; rfl)⟩, ⟨rfl, rfl, by rw [hBf]⟩, trivial⟩ (by repeat' (first | rfl | trivial | apply And.intro))
    rw [if_pos ⟨hk2, by simp at u1; omega, by simp at u2; omega, of_decide_eq_true u3⟩] at hBf
    conv => whnf
    refine VReq.mk (app_ok (by simp only [List.length_map, List.length_cons, List.length_nil]; omega) (by kernel_rfl)) ?_
    conv => whnf
    refine AAr.i64 (by omega) ?_
    conv => whnf
    refine aback (i + 1) [(4, .lab 8), (5, .lab 10)] [] rfl (by show l.length - (i + 1) < l.length - i; omega) hlt ⟨(by repeat' (first | rfl | trivial | apply And.intro)), (by repeat' (first | rfl | trivial | apply And.intro)), (by repeat' (first | rfl | trivial | apply And.intro)), ⟨rfl, by rw [hMx]; repeat' (first | rfl | trivial | apply And.intro)⟩, ⟨rfl, rfl, by rw [hI]; (rw [List.map_append]; rfl)⟩, ⟨rfl, rfl, ?_⟩, trivial⟩ (by repeat' (first | rfl | trivial | apply And.intro))
    rw [hBf, List.map_append]
    rfl
  · rw [if_neg fun h => hk2 h.1] at hI
    (refine adraw pln29 [] (by kernel_rfl) ?_; conv => whnf)
    refine AIn.mk' i rfl (by rw [List.length_map]; exact hol2) ?_
    conv => whnf
    refine ARd.mapAt hoi ?_
    conv => whnf
    refine vif_split (fun h3 => ?_) (fun h3 => ?_)
    rotate_left 1
    · rw [if_neg fun h => by rw [owI_eq.2 h.2.1] at h3; simp at h3] at hMx
      conv => whnf
      (refine adraw pln29 [] (by kernel_rfl) ?_; conv => whnf)
      refine vif_split (fun q => ?_) (fun q => ?_)
      · exfalso; simp at q; omega
      conv => whnf
      rw [if_neg (fun h => hk2 h.1)] at hBf
      conv => whnf
      refine AAr.i64 (by omega) ?_
      conv => whnf
      exact aback (i + 1) [(4, .lab 4), (5, .lab 5)] [] rfl (by show l.length - (i + 1) < l.length - i; omega) hlt ⟨(by repeat' (first | rfl | trivial | apply And.intro)), (by repeat' (first | rfl | trivial | apply And.intro)), (by repeat' (first | rfl | trivial | apply And.intro)), ⟨rfl, by rw [hMx]; repeat' (first | rfl | trivial | apply And.intro)⟩, ⟨rfl, rfl, by rw [hI]; skip⟩, ⟨rfl, rfl, by rw [hBf]⟩, trivial⟩ (by repeat' (first | rfl | trivial | apply And.intro))
    have ho : owO ls xs e.id e.time = some k := owI_eq.1 (by simpa using h3)
    have htg := hownk _ _ ho
    conv => whnf
    refine AIn.mk' k rfl (by rw [List.length_map]; exact hlk2) ?_
    conv => whnf
    refine ARd.mapAt hgx ?_
    conv => whnf
    refine vif_split (fun q => ?_) (fun q => ?_)
    rotate_left 1
    · exfalso; simp at q; omega
    conv => whnf
    refine AIn.mk' k rfl (by rw [List.length_map]; exact hlk2) ?_
    conv => whnf
    refine ARd.mapAt hgx ?_
    conv => whnf
    refine AAr.i64 (by omega) ?_
    conv => whnf
    refine vif_split (fun h4 => ?_) (fun h4 => ?_)
    rotate_left 1
    · rw [if_neg fun h => by simp at h4; omega] at hMx
      conv => whnf
      (refine adraw pln29 [] (by kernel_rfl) ?_; conv => whnf)
      refine vif_split (fun q => ?_) (fun q => ?_)
      · exfalso; simp at q; omega
      conv => whnf
      rw [if_neg (fun h => hk2 h.1)] at hBf
      conv => whnf
      refine AAr.i64 (by omega) ?_
      conv => whnf
      exact aback (i + 1) [(4, .lab 4), (5, .lab 5)] [] rfl (by show l.length - (i + 1) < l.length - i; omega) hlt ⟨(by repeat' (first | rfl | trivial | apply And.intro)), (by repeat' (first | rfl | trivial | apply And.intro)), (by repeat' (first | rfl | trivial | apply And.intro)), ⟨rfl, by rw [hMx]; repeat' (first | rfl | trivial | apply And.intro)⟩, ⟨rfl, rfl, by rw [hI]; skip⟩, ⟨rfl, rfl, by rw [hBf]⟩, trivial⟩ (by repeat' (first | rfl | trivial | apply And.intro))
    conv => whnf
    refine vif_split (fun q => ?_) (fun q => ?_)
    · exfalso; simp at q; omega
    conv => whnf
    (refine adraw pln29 [] (by kernel_rfl) ?_; conv => whnf)
    refine vif_split (fun h5 => ?_) (fun h5 => ?_)
    rotate_left 1
    · rw [if_neg fun h => by simp at h5; exact h5 h.1] at hMx
      conv => whnf
      (refine adraw pln29 [] (by kernel_rfl) ?_; conv => whnf)
      refine vif_split (fun q => ?_) (fun q => ?_)
      · exfalso; simp at q; omega
      conv => whnf
      rw [if_neg (fun h => hk2 h.1)] at hBf
      conv => whnf
      refine AAr.i64 (by omega) ?_
      conv => whnf
      exact aback (i + 1) [(4, .lab 4), (5, .lab 5)] [] rfl (by show l.length - (i + 1) < l.length - i; omega) hlt ⟨(by repeat' (first | rfl | trivial | apply And.intro)), (by repeat' (first | rfl | trivial | apply And.intro)), (by repeat' (first | rfl | trivial | apply And.intro)), ⟨rfl, by rw [hMx]; repeat' (first | rfl | trivial | apply And.intro)⟩, ⟨rfl, rfl, by rw [hI]; skip⟩, ⟨rfl, rfl, by rw [hBf]⟩, trivial⟩ (by repeat' (first | rfl | trivial | apply And.intro))
    rw [if_pos ⟨by simpa using h5, ho, by simpa using h4⟩] at hMx
    conv => whnf
    refine vif_split (fun h6 => ?_) (fun h6 => ?_)
    rotate_left 1
    · have hn : ¬ e.name = name := by simpa [sEq_tx] using h6
      rw [decide_eq_false hn, Bool.false_and, Bool.or_false] at hMx
      conv => whnf
      (refine adraw pln29 [] (by kernel_rfl) ?_; conv => whnf)
      refine vif_split (fun q => ?_) (fun q => ?_)
      · exfalso; simp at q; omega
      conv => whnf
      rw [if_neg (fun h => hk2 h.1)] at hBf
      conv => whnf
      refine AAr.i64 (by omega) ?_
      conv => whnf
      exact aback (i + 1) [(4, .lab 4), (5, .lab 5)] [] rfl (by show l.length - (i + 1) < l.length - i; omega) hlt ⟨(by repeat' (first | rfl | trivial | apply And.intro)), (by repeat' (first | rfl | trivial | apply And.intro)), (by repeat' (first | rfl | trivial | apply And.intro)), ⟨rfl, by rw [hMx]; repeat' (first | rfl | trivial | apply And.intro)⟩, ⟨rfl, rfl, by rw [hI]; skip⟩, ⟨rfl, rfl, by rw [hBf]⟩, trivial⟩ (by repeat' (first | rfl | trivial | apply And.intro))
    have hn : e.name = name := by simpa [sEq_tx] using h6
    rw [decide_eq_true hn, Bool.true_and] at hMx
    conv => whnf
    refine AIn.mk' k rfl (by rw [List.length_map]; exact hlk2) ?_
    conv => whnf
    refine ARd.mapAt hgx ?_
    conv => whnf
    refine vif_split (fun h7 => ?_) (fun h7 => ?_)
    rotate_left 1
    · have ha : e.arm = x.arm := by simpa using h7
      rw [decide_eq_true ha, Bool.not_true, Bool.or_false] at hMx
      conv => whnf
      (refine adraw pln29 [] (by kernel_rfl) ?_; conv => whnf)
      refine vif_split (fun q => ?_) (fun q => ?_)
      · exfalso; simp at q; omega
      conv => whnf
      rw [if_neg (fun h => hk2 h.1)] at hBf
      conv => whnf
      refine AAr.i64 (by omega) ?_
      conv => whnf
      exact aback (i + 1) [(4, .lab 4), (5, .lab 5)] [] rfl (by show l.length - (i + 1) < l.length - i; omega) hlt ⟨(by repeat' (first | rfl | trivial | apply And.intro)), (by repeat' (first | rfl | trivial | apply And.intro)), (by repeat' (first | rfl | trivial | apply And.intro)), ⟨rfl, by rw [hMx]; repeat' (first | rfl | trivial | apply And.intro)⟩, ⟨rfl, rfl, by rw [hI]; skip⟩, ⟨rfl, rfl, by rw [hBf]⟩, trivial⟩ (by repeat' (first | rfl | trivial | apply And.intro))
    have ha : ¬ e.arm = x.arm := by simpa using h7
    rw [decide_eq_false ha, Bool.not_false, Bool.or_true] at hMx
    conv => whnf
    (refine adraw pln29 [] (by kernel_rfl) ?_; conv => whnf)
    refine vif_split (fun q => ?_) (fun q => ?_)
    · exfalso; simp at q; omega
    conv => whnf
    rw [if_neg (fun h => hk2 h.1)] at hBf
    conv => whnf
    refine AAr.i64 (by omega) ?_
    conv => whnf
    exact aback (i + 1) [(4, .lab 4), (5, .lab 5)] [] rfl (by show l.length - (i + 1) < l.length - i; omega) hlt ⟨(by repeat' (first | rfl | trivial | apply And.intro)), (by repeat' (first | rfl | trivial | apply And.intro)), (by repeat' (first | rfl | trivial | apply And.intro)), ⟨rfl, by rw [hMx]; repeat' (first | rfl | trivial | apply And.intro)⟩, ⟨rfl, rfl, by rw [hI]; skip⟩, ⟨rfl, rfl, by rw [hBf]⟩, trivial⟩ (by repeat' (first | rfl | trivial | apply And.intro))
end Go.Proofs.YtmnjmdajgilhiaaDoor.Cl

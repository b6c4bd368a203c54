/- The walk of join.Samples. Condition: the library's table of spaces (GS); sizes. -/
import Derived.Test.YtmnjmdajgilhiaaDoorJz
set_option linter.unusedVariables false
set_option linter.unusedSimpArgs false
namespace Go.Proofs.YtmnjmdajgilhiaaDoor.Cl
open Go Go.RowKit Go.Proofs Go.Proofs.YtmnjmdajgilhiaaDoor.Vc Go.Proofs.YtmnjmdajgilhiaaDoor.Ax Go.Proofs.YtmnjmdajgilhiaaDoor.Ky Go.Proofs.YtmnjmdajgilhiaaDoor.Id
attribute [local irreducible] loadVar storeVar Instr.indexAt Instr.index Instr.sliceAt Instr.makeSlice Instr.lookup Instr.mapUpdate Instr.range Instr.next Instr.entry Instr.makeMap Builtin.append_ Builtin.copy_ Builtin.len_ Builtin.min_ Builtin.max_ Builtin.cap_ Builtin.delete_ Builtin.clear_ convert binOp eqGuard Op.unary Calls
theorem mtC_rng {m : Mt} (h : mtC m = 0) : (1 ≤ m.window ∧ m.window ≤ 68719476736) ∧ (1 ≤ m.cap ∧ m.cap ≤ 1048576) ∧ (-1099511627776 ≤ m.least ∧ m.least ≤ 1099511627776) ∧ (0 ≤ m.before ∧ m.before ≤ 68719476736) := by
  unfold mtC at h
  split at h
  · cases h
  · split at h
    · cases h
    · split at h
      · cases h
      · rename_i h3
        omega
/-- events of moderate size -/
structure EvB (l : List Ev) : Prop where
  len : l.length ≤ 10000
  time : ∀ e ∈ l, -1000000000000 ≤ e.time ∧ e.time ≤ 1000000000000
  val : ∀ e ∈ l, -1000000 ≤ e.val ∧ e.val ≤ 1000000
theorem EvB.meas {l q : List Ev} (h : EvB l) (hs : ∀ e ∈ q, e ∈ ofK 2 l) (hq : q.length ≤ 10000) : MeasL q :=
  ⟨hq, fun e he => by have := (List.mem_filter.1 (hs e he)).2; simpa using this, fun e he => h.val e (List.mem_filter.1 (hs e he)).1⟩
theorem fstX_mem {ls : List Lk} {name : By} : ∀ (l : List Ev) (x : Ex), x ∈ fstX ls name l → ∃ e ∈ l, x = exE e := by
  have : ∀ (l : List Ev) (o : List Ex) (x : Ex), x ∈ l.foldl (fstN ls name) o → x ∈ o ∨ ∃ e ∈ l, x = exE e := by
    intro l
    induction l with
    | nil => intro o x h; exact .inl h
    | cons e r ih =>
      intro o x h
      rcases ih _ x h with h | ⟨e', h1, h2⟩
      · unfold fstN at h
        split at h
        · rcases List.mem_append.1 h with h | h
          · exact .inl h
          · rw [List.mem_singleton] at h; exact .inr ⟨e, List.mem_cons_self, h⟩
        · exact .inl h
      · exact .inr ⟨e', List.mem_cons_of_mem _ h1, h2⟩
  intro l x h
  rcases this l [] x h with h | h
  · cases h
  · exact h
theorem EvB.tim {l : List Ev} (h : EvB l) {m : Mt} (hm : mtC m = 0) (name : By) : Tim (fstS l name) m.window l :=
  ⟨by have := (mtC_rng hm).1; omega, fun x hx => by
    obtain ⟨e, he, rfl⟩ := fstX_mem _ x hx
    exact h.time e (List.mem_filter.1 he).1⟩
set_option maxHeartbeats 8000000 in
set_option maxRecDepth 100000 in
theorem samplesA (l : List Ev) (name : By) (m : Mt) (mark : Int) (hB : EvB l) (z1 : m.name.length ≤ 140737488355328) (z2 : m.below.length ≤ 140737488355328) :
    AFn Tryd.prog GS 14 [el l, tv name, mtA m, iv mark] 0 [] (Is (smL (if mtC m = 0 then smpS l name m mark else []))) := by
  have hlen := hB.len
  have hls : (lksE l).length ≤ 50000 := by unfold lksE; rw [List.length_map]; have := ofK_le 3 l; omega
  refine afnY_of Tryd.func14 rfl mixed (by kernel_rfl) ?_
  conv => whnf
  (refine acall [] (by kernel_rfl) (mchk1 m z1 z2) rfl ?_ ?_; (focus (repeat' (first | rfl | trivial | apply And.intro))))
  conv => whnf
  refine vif_split (fun h => ?_) (fun h => ?_)
  · rw [if_neg (by simpa using h)]
    conv => whnf
    exact aret [] (by repeat' (first | rfl | trivial | apply And.intro))
  have hm : mtC m = 0 := by simpa using h
  rw [if_pos hm]
  obtain ⟨rw, rc, rl, rb⟩ := mtC_rng hm
  have htm := hB.tim hm name
  conv => whnf
  (refine acallF [] (by kernel_rfl) (meetA l (by omega)) ?_ ?_; (focus (repeat' (first | rfl | trivial | apply And.intro))))
  rintro _ _ _ ⟨rfl, rfl, rfl⟩
  conv => whnf
  refine acallM [3, 4] [] (by kernel_rfl) (jfirstA (lksE l) [] l name hls (by omega)) rfl (by repeat' (first | rfl | trivial | apply And.intro)) (by repeat' (first | rfl | trivial | apply And.intro)) ?_
  rintro _ _ _ ⟨rfl, rfl, rfl⟩
  refine ⟨rfl, ?_⟩
  have hxl : (fstX (lksE l) name (ofK 1 l)).length ≤ 10000 := Nat.le_trans (fstX_len _ _ _) (Nat.le_trans (ofK_le 1 l) hlen)
  have hxs : fstX (lksE l) name (ofK 1 l) = fstS l name := rfl
  rw [hxs] at hxl ⊢
  have hall := smpN_all l name m mark
  have hsucc := fun (i : Nat) => smpN_succ (l := l) (name := name) (m := m) (mark := mark) (i := i)
  have hsl := smpN_len l name m mark
  have hse : ∀ k x, smpE l name m k x = ⟨x, lim m (mtV m (insE (lksE l) (fstS l name) m.window k x (ofK 2 l))), lim m (mtB m (insE (lksE l) (fstS l name) m.window k x (ofK 2 l))), if m.before = 0 then 0 else lim m (mtV m (befE (lksE l) m.before x (ofK 2 l))), mixE (lksE l) (fstS l name) name m.window k x (ofK 1 l)⟩ := fun _ _ => rfl
  generalize fstS l name = xs at *
  generalize tsF name [] (ofK 1 l) = ts1 at *
  conv => whnf
  refine AMk.mk' (by_ := 24) xs.length (by rw [List.length_map]) (by rw [List.length_map]) ⟨by omega, by unfold maxLen; omega⟩ ?_
  conv => whnf
  refine AMk.mk' (by_ := 1) xs.length (by rw [List.length_map]) (by rw [List.length_map]) ⟨by omega, by unfold maxLen; omega⟩ ?_
  conv => whnf
  refine acallM [3, 4, 0, 5, 6, 2, 8, 7] [] (by kernel_rfl) (owned1G (lksE l) ts1 xs m l hls (by omega) hlen htm) rfl (by repeat' (first | rfl | trivial | apply And.intro)) (by repeat' (first | rfl | trivial | apply And.intro)) ?_
  rintro _ _ _ ⟨rfl, rfl, rfl⟩
  refine ⟨rfl, ?_⟩
  generalize tsO ts1 (ofK 2 l) = ts2 at *
  conv => whnf
  refine acallM [3, 4, 0, 5, 6, 2, 10, 9, 1] [] (by kernel_rfl) (owned2A (lksE l) ts2 xs m l name hls (by omega) hlen htm) rfl ⟨(by repeat' (first | rfl | trivial | apply And.intro)), (by repeat' (first | rfl | trivial | apply And.intro)), (by repeat' (first | rfl | trivial | apply And.intro)), (by repeat' (first | rfl | trivial | apply And.intro)), (by repeat' (first | rfl | trivial | apply And.intro)), (by repeat' (first | rfl | trivial | apply And.intro)), (by repeat' (first | rfl | trivial | apply And.intro)), ⟨rfl, rfl, ?_⟩, (by repeat' (first | rfl | trivial | apply And.intro)), trivial⟩ (by repeat' (first | rfl | trivial | apply And.intro)) ?_
  · rw [mixB_nil, List.map_replicate]
    rfl
  rintro _ _ _ ⟨rfl, rfl, rfl⟩
  refine ⟨rfl, ?_⟩
  generalize tsO ts2 (ofK 1 l) = ts3 at *
  conv => whnf
  refine aloop ws14_1 12 [44, 14] (fun x : Nat × List Int => [(44, iv x.1), (14, .own 11)]) (fun x => [(3, .var 95 [lksA (lksE l), .mp 4]), (4, .imap (Tm (lksE l) x.2)), (0, .var 24 [el l]), (5, .var 71 [.ptr 3 0]), (6, .var 37 [exL xs]), (2, mvB m), (8, .var 73 [.own 7]), (7, .rows 24 1 ((insL (lksE l) xs m.window (ofK 2 l)).map frzE)), (10, .var 74 [.own 9]), (9, .rows 4 1 ((mixB (lksE l) xs name m.window (ofK 1 l)).map boF)), (11, .rows 42 10 ((smpN l name m mark x.1).map smF))]) (fun x => x.1 ≤ xs.length) (fun x => xs.length - x.1) [(11, .nil)] [] (0, ts3) (by kernel_rfl) (fun _ => rfl) rfl (Nat.zero_le _) (by repeat' (first | rfl | trivial | apply And.intro)) (by repeat' (first | rfl | trivial | apply And.intro)) ?_
  rintro ⟨i, ts⟩ hi
  change i ≤ xs.length at hi
  conv => whnf
  refine vif_split (fun h => ?_) (fun h => ?_)
  rotate_left 1
  · have hie : i = xs.length := by simp at h; omega
    subst hie
    conv => whnf
    exact aret [11] (by refine ⟨rfl, rfl, ?_⟩; rw [← hall])
  have hlt : i < xs.length := by simp at h; omega
  have hgx := List.getElem?_eq_getElem hlt
  have htx := htm.xs _ (List.getElem_mem hlt)
  have hs := hsucc i hlt
  have hins : (insL (lksE l) xs m.window (ofK 2 l))[i]? = some (insE (lksE l) xs m.window i xs[i] (ofK 2 l)) := by rw [insL_get, hgx]; rfl
  have hmix : (mixB (lksE l) xs name m.window (ofK 1 l))[i]? = some (mixE (lksE l) xs name m.window i xs[i] (ofK 1 l)) := by rw [mixB_get, hgx]; rfl
  have hMe : MeasL (insE (lksE l) xs m.window i xs[i] (ofK 2 l)) := hB.meas (insE_sub _ _ _ _ _ _) (Nat.le_trans (insE_len _ _ _ _ _ _) (Nat.le_trans (ofK_le 2 l) hlen))
  have hse := hse i xs[i]
  generalize insE (lksE l) xs m.window i xs[i] (ofK 2 l) = ins at *
  generalize mixE (lksE l) xs name m.window i xs[i] (ofK 1 l) = mx at *
  generalize xs[i] = x at *
  conv => whnf
  refine AIn.mk' i rfl (by rw [List.length_map]; exact hlt) ?_
  conv => whnf
  refine ARd.mapAt hgx ?_
  conv => whnf
  refine AAr.i64 (by omega) ?_
  conv => whnf
  refine vif_split (fun h => ?_) (fun h => ?_)
  · rw [if_neg (by simp at h; omega)] at hs
    conv => whnf
    refine AAr.i64 (by omega) ?_
    conv => whnf
    exact aback (i + 1, ts) [(11, .lab 11)] [] rfl (by show xs.length - (i + 1) < xs.length - i; omega) hlt ⟨(by repeat' (first | rfl | trivial | apply And.intro)), (by repeat' (first | rfl | trivial | apply And.intro)), (by repeat' (first | rfl | trivial | apply And.intro)), (by repeat' (first | rfl | trivial | apply And.intro)), (by repeat' (first | rfl | trivial | apply And.intro)), (by repeat' (first | rfl | trivial | apply And.intro)), (by repeat' (first | rfl | trivial | apply And.intro)), (by repeat' (first | rfl | trivial | apply And.intro)), (by repeat' (first | rfl | trivial | apply And.intro)), (by repeat' (first | rfl | trivial | apply And.intro)), ⟨rfl, rfl, by rw [hs]⟩, trivial⟩ (by repeat' (first | rfl | trivial | apply And.intro))
  rw [if_pos (by simp at h; omega)] at hs
  conv => whnf
  (refine adraw pln14 [] (by kernel_rfl) ?_; conv => whnf)
  refine AIn.mk' i rfl (by rw [List.length_map, mixB_len]; exact hlt) ?_
  conv => whnf
  refine ARd.mapAt hmix ?_
  conv => whnf
  (refine adraw pln14 [13] (by kernel_rfl) ?_; conv => whnf)
  refine AIn.mk' i rfl (by rw [List.length_map, insL_len]; exact hlt) ?_
  conv => whnf
  refine ARd.mapAt hins ?_
  conv => whnf
  (refine acall [] (by kernel_rfl) (valueA m ins hm hMe z1 z2) rfl ?_ ?_; (focus (repeat' (first | rfl | trivial | apply And.intro))))
  conv => whnf
  refine vif_split (fun hb => ?_) (fun hb => ?_)
  rotate_left 1
  · rw [if_pos (by simpa using hb)] at hse
    conv => whnf
    refine VReq.mk (app_ok (by have := hsl i; simp only [List.length_map, List.length_cons, List.length_nil]; omega) (by kernel_rfl)) ?_
    conv => whnf
    refine AAr.i64 (by omega) ?_
    conv => whnf
    refine aback (i + 1, ts) [(11, .lab 15)] [] rfl (by show xs.length - (i + 1) < xs.length - i; omega) hlt ⟨(by repeat' (first | rfl | trivial | apply And.intro)), (by repeat' (first | rfl | trivial | apply And.intro)), (by repeat' (first | rfl | trivial | apply And.intro)), (by repeat' (first | rfl | trivial | apply And.intro)), (by repeat' (first | rfl | trivial | apply And.intro)), (by repeat' (first | rfl | trivial | apply And.intro)), (by repeat' (first | rfl | trivial | apply And.intro)), (by repeat' (first | rfl | trivial | apply And.intro)), (by repeat' (first | rfl | trivial | apply And.intro)), (by repeat' (first | rfl | trivial | apply And.intro)), ⟨rfl, rfl, ?_⟩, trivial⟩ (by repeat' (first | rfl | trivial | apply And.intro))
    rw [hs, hse, List.map_append]
    rfl
  have hb0 : ¬ m.before = 0 := by simpa using hb
  rw [if_neg hb0] at hse
  conv => whnf
  (refine acallF [] (by kernel_rfl) (jofA GS l 2) ?_ ?_; (focus (repeat' (first | rfl | trivial | apply And.intro))))
  rintro _ _ _ ⟨rfl, rfl, rfl⟩
  have hol := ofK_le 2 l
  conv => whnf
  refine arange (jofI GS l 2 (by omega)) 16 (fun p => [(3, .var 95 [lksA (lksE l), .mp 4]), (4, .imap (Tm (lksE l) (tsB m.before x ts ((ofK 2 l).take p)))), (0, .var 24 [el l]), (5, .var 71 [.ptr 3 0]), (6, .var 37 [exL xs]), (2, mvB m), (8, .var 73 [.own 7]), (7, .rows 24 1 ((insL (lksE l) xs m.window (ofK 2 l)).map frzE)), (10, .var 74 [.own 9]), (9, .rows 4 1 ((mixB (lksE l) xs name m.window (ofK 1 l)).map boF)), (11, .rows 42 10 ((smpN l name m mark i).map smF)), (12, .var 40 ((exF x).map FV.up)), (13, .var 42 ((smF ⟨x, lim m (mtV m ins), lim m (mtB m ins), 0, mx⟩).map FV.up)), (14, .var 24 [.own 15]), (15, .rows 32 10 ((befE (lksE l) m.before x ((ofK 2 l).take p)).map enE))]) [(15, .nil)] [] rfl (by kernel_rfl) rfl (fun x hx => rng_1 x hx) rfl (by repeat' (first | rfl | trivial | apply And.intro)) (fun p y hy => ?_) ?_
  · obtain ⟨hp, rfl⟩ := rng_at hy
    have hsn : (ofK 2 l).take (p + 1) = (ofK 2 l).take p ++ [(ofK 2 l)[p]] := List.take_succ_eq_append_getElem hp
    have hte := hB.time _ (List.mem_filter.1 (List.getElem_mem hp)).1
    have h1 := befE_snoc (lksE l) m.before x ((ofK 2 l).take p) (ofK 2 l)[p]
    have h2 := tsB_snoc m.before x ts ((ofK 2 l).take p) (ofK 2 l)[p]
    have h3 := befE_len (lksE l) m.before x ((ofK 2 l).take p)
    rw [List.length_take] at h3
    rw [← hsn] at h1 h2
    generalize (ofK 2 l)[p] = e at *
    generalize befE (lksE l) m.before x ((ofK 2 l).take p) = bf at *
    generalize tsB m.before x ts ((ofK 2 l).take p) = ts' at *
    conv => whnf
    (refine adraw pln14 [3, 4] (by kernel_rfl) ?_; conv => whnf)
    refine AAr.i64 (by omega) ?_
    conv => whnf
    refine vif_split (fun c1 => ?_) (fun c1 => ?_)
    rotate_left 1
    · rw [if_neg (fun h => by simp at c1; omega)] at h1 h2
      conv => whnf
      refine arback [(15, .lab 15)] [] rfl ⟨(by repeat' (first | rfl | trivial | apply And.intro)), by rw [h2]; exact rfl, (by repeat' (first | rfl | trivial | apply And.intro)), (by repeat' (first | rfl | trivial | apply And.intro)), (by repeat' (first | rfl | trivial | apply And.intro)), (by repeat' (first | rfl | trivial | apply And.intro)), (by repeat' (first | rfl | trivial | apply And.intro)), (by repeat' (first | rfl | trivial | apply And.intro)), (by repeat' (first | rfl | trivial | apply And.intro)), (by repeat' (first | rfl | trivial | apply And.intro)), (by repeat' (first | rfl | trivial | apply And.intro)), (by repeat' (first | rfl | trivial | apply And.intro)), (by repeat' (first | rfl | trivial | apply And.intro)), (by repeat' (first | rfl | trivial | apply And.intro)), ⟨rfl, rfl, by rw [h1]⟩, trivial⟩
    conv => whnf
    refine vif_split (fun c2 => ?_) (fun c2 => ?_)
    rotate_left 1
    · rw [if_neg (fun h => by simp at c2; omega)] at h1 h2
      conv => whnf
      refine arback [(15, .lab 15)] [] rfl ⟨(by repeat' (first | rfl | trivial | apply And.intro)), by rw [h2]; exact rfl, (by repeat' (first | rfl | trivial | apply And.intro)), (by repeat' (first | rfl | trivial | apply And.intro)), (by repeat' (first | rfl | trivial | apply And.intro)), (by repeat' (first | rfl | trivial | apply And.intro)), (by repeat' (first | rfl | trivial | apply And.intro)), (by repeat' (first | rfl | trivial | apply And.intro)), (by repeat' (first | rfl | trivial | apply And.intro)), (by repeat' (first | rfl | trivial | apply And.intro)), (by repeat' (first | rfl | trivial | apply And.intro)), (by repeat' (first | rfl | trivial | apply And.intro)), (by repeat' (first | rfl | trivial | apply And.intro)), (by repeat' (first | rfl | trivial | apply And.intro)), ⟨rfl, rfl, by rw [h1]⟩, trivial⟩
    rw [if_pos (by simp at c1 c2; omega)] at h2
    conv => whnf
    refine acallM [3, 4] [] (by kernel_rfl) (jrootA (lksE l) ts' x.time e.id (by omega)) rfl (by repeat' (first | rfl | trivial | apply And.intro)) (by repeat' (first | rfl | trivial | apply And.intro)) ?_
    rintro _ _ _ ⟨rfl, rfl, rfl⟩
    refine ⟨rfl, ?_⟩
    conv => whnf
    refine acallM [3, 4] [] (by kernel_rfl) (jrootA (lksE l) (x.time :: ts') x.time x.id (by omega)) rfl (by repeat' (first | rfl | trivial | apply And.intro)) (by repeat' (first | rfl | trivial | apply And.intro)) ?_
    rintro _ _ _ ⟨rfl, rfl, rfl⟩
    refine ⟨rfl, ?_⟩
    rw [Tm_two]
    conv => whnf
    refine vif_split (fun c3 => ?_) (fun c3 => ?_)
    rotate_left 1
    · rw [if_neg (fun h => by rw [(sEq_iff _ _).2 h.2.2] at c3; cases c3)] at h1
      conv => whnf
      refine arback [(15, .lab 15)] [] rfl ⟨(by repeat' (first | rfl | trivial | apply And.intro)), by rw [h2]; exact rfl, (by repeat' (first | rfl | trivial | apply And.intro)), (by repeat' (first | rfl | trivial | apply And.intro)), (by repeat' (first | rfl | trivial | apply And.intro)), (by repeat' (first | rfl | trivial | apply And.intro)), (by repeat' (first | rfl | trivial | apply And.intro)), (by repeat' (first | rfl | trivial | apply And.intro)), (by repeat' (first | rfl | trivial | apply And.intro)), (by repeat' (first | rfl | trivial | apply And.intro)), (by repeat' (first | rfl | trivial | apply And.intro)), (by repeat' (first | rfl | trivial | apply And.intro)), (by repeat' (first | rfl | trivial | apply And.intro)), (by repeat' (first | rfl | trivial | apply And.intro)), ⟨rfl, rfl, by rw [h1]⟩, trivial⟩
    rw [if_pos ⟨by simpa using c1, by simpa using c2, (sEq_iff _ _).1 c3⟩] at h1
    conv => whnf
    refine VReq.mk (app_ok (by simp only [List.length_map, List.length_cons, List.length_nil]; omega) (by kernel_rfl)) ?_
    conv => whnf
    refine arback [(15, .lab 18)] [] rfl ⟨(by repeat' (first | rfl | trivial | apply And.intro)), by rw [h2]; exact rfl, (by repeat' (first | rfl | trivial | apply And.intro)), (by repeat' (first | rfl | trivial | apply And.intro)), (by repeat' (first | rfl | trivial | apply And.intro)), (by repeat' (first | rfl | trivial | apply And.intro)), (by repeat' (first | rfl | trivial | apply And.intro)), (by repeat' (first | rfl | trivial | apply And.intro)), (by repeat' (first | rfl | trivial | apply And.intro)), (by repeat' (first | rfl | trivial | apply And.intro)), (by repeat' (first | rfl | trivial | apply And.intro)), (by repeat' (first | rfl | trivial | apply And.intro)), (by repeat' (first | rfl | trivial | apply And.intro)), (by repeat' (first | rfl | trivial | apply And.intro)), ⟨rfl, rfl, ?_⟩, trivial⟩
    rw [h1, List.map_append]
    rfl
  · rw [show ((ofK 2 l).map fun e => [evA e]).length = (ofK 2 l).length from List.length_map _, List.take_length]
    have hMb : MeasL (befE (lksE l) m.before x (ofK 2 l)) := hB.meas (befE_sub _ _ _ _) (Nat.le_trans (befE_len _ _ _ _) (Nat.le_trans hol hlen))
    generalize befE (lksE l) m.before x (ofK 2 l) = bf at *
    conv => whnf
    refine acall [15] (by kernel_rfl) (valueA m bf hm hMb z1 z2) rfl ?_ ?_; (focus (repeat' (first | rfl | trivial | apply And.intro)))
    conv => whnf
    refine VReq.mk (app_ok (by have := hsl i; simp only [List.length_map, List.length_cons, List.length_nil]; omega) (by kernel_rfl)) ?_
    conv => whnf
    refine AAr.i64 (by omega) ?_
    conv => whnf
    refine aback (i + 1, tsB m.before x ts (ofK 2 l)) [(11, .lab 17)] [] rfl (by show xs.length - (i + 1) < xs.length - i; omega) hlt ⟨(by repeat' (first | rfl | trivial | apply And.intro)), (by repeat' (first | rfl | trivial | apply And.intro)), (by repeat' (first | rfl | trivial | apply And.intro)), (by repeat' (first | rfl | trivial | apply And.intro)), (by repeat' (first | rfl | trivial | apply And.intro)), (by repeat' (first | rfl | trivial | apply And.intro)), (by repeat' (first | rfl | trivial | apply And.intro)), (by repeat' (first | rfl | trivial | apply And.intro)), (by repeat' (first | rfl | trivial | apply And.intro)), (by repeat' (first | rfl | trivial | apply And.intro)), ⟨rfl, rfl, ?_⟩, trivial⟩ (by repeat' (first | rfl | trivial | apply And.intro))
    rw [hs, hse, List.map_append]
    rfl
end Go.Proofs.YtmnjmdajgilhiaaDoor.Cl

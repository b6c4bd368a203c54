/- The law JoinShares in plain words, and its walk. Condition: the library's table of spaces (GS). -/
import Derived.Test.YtmnjmdajgilhiaaDoorJ3
set_option linter.unusedVariables false
set_option linter.unusedSimpArgs false
namespace Go.Proofs.YtmnjmdajgilhiaaDoor.Cl
open Go Go.RowKit Go.Proofs Go.Proofs.YtmnjmdajgilhiaaDoor.Vc Go.Proofs.YtmnjmdajgilhiaaDoor.Ax Go.Proofs.YtmnjmdajgilhiaaDoor.Ky Go.Proofs.YtmnjmdajgilhiaaDoor.Id
attribute [local irreducible] loadVar storeVar Instr.indexAt Instr.index Instr.sliceAt Instr.makeSlice Instr.lookup Instr.mapUpdate Instr.range Instr.next Instr.entry Instr.makeMap Builtin.append_ Builtin.copy_ Builtin.len_ Builtin.min_ Builtin.max_ Builtin.cap_ Builtin.delete_ Builtin.clear_ convert binOp eqGuard Op.unary Calls
def buyB : By := [98, 117, 121]
/-- counting -/
theorem mtV_count {m : Mt} (hk : m.kind = 2) : ∀ (l : List Ev), (∀ e ∈ l, m.least ≤ e.val) → mtV m l = ((l.countP fun e => decide (e.name = m.name) : Nat) : Int) := by
  have : ∀ (l : List Ev) (a : Int), (∀ e ∈ l, m.least ≤ e.val) → l.foldl (fun a e => if e.name = m.name ∧ m.least ≤ e.val then a + mtW m e else a) a = a + ((l.countP fun e => decide (e.name = m.name) : Nat) : Int) := by
    intro l
    induction l with
    | nil => intro a _; simp
    | cons e r ih =>
      intro a h
      rw [List.foldl_cons, ih _ fun x hx => h x (List.mem_cons_of_mem _ hx), List.countP_cons]
      have hw : mtW m e = 1 := if_neg (by rw [hk]; decide)
      by_cases hn : e.name = m.name
      · rw [if_pos ⟨hn, h e List.mem_cons_self⟩, hw]; simp [hn]; omega
      · rw [if_neg fun h => hn h.1]; simp [hn]
  intro l h
  have := this l 0 h
  rw [Int.zero_add] at this
  exact this
/-- an event that counts for the k-th first exposure -/
def shP (ls : List Lk) (xs : List Ex) (w : Int) (k : Nat) (x : Ex) (e : Ev) : Bool := (decide (owO ls xs e.id e.time = some k) && decide (e.time < x.time + w)) && decide (e.name = buyB)
def shC (ls : List Lk) (xs : List Ex) (w : Int) (k : Nat) (x : Ex) (l : List Ev) : Nat := l.countP (shP ls xs w k x)
theorem insE_cnt (ls : List Lk) (xs : List Ex) (w : Int) (k : Nat) (x : Ex) (l : List Ev) : (insE ls xs w k x l).countP (fun e => decide (e.name = buyB)) = shC ls xs w k x l := by
  unfold insE shC shP
  rw [List.countP_filter]
  congr 1
  funext e
  rw [Bool.and_comm]
theorem shC_mono (ls : List Lk) (xs : List Ex) {w w' : Int} (h : w ≤ w') (k : Nat) (x : Ex) (l : List Ev) : shC ls xs w k x l ≤ shC ls xs w' k x l := by
  unfold shC
  refine List.countP_mono_left fun e _ he => ?_
  unfold shP at he ⊢
  simp only [Bool.and_eq_true, decide_eq_true_eq] at he ⊢
  exact ⟨⟨he.1.1, by omega⟩, he.2⟩
theorem mixE_mono (ls : List Lk) (xs : List Ex) (name : By) {w w' : Int} (h : w ≤ w') (k : Nat) (x : Ex) (l : List Ev) (hm : mixE ls xs name w k x l = true) : mixE ls xs name w' k x l = true := by
  unfold mixE at hm ⊢
  rw [List.any_eq_true] at hm ⊢
  obtain ⟨e, he, h2⟩ := hm
  refine ⟨e, ?_, h2⟩
  unfold insE at he ⊢
  rw [List.mem_filter] at he ⊢
  simp only [Bool.and_eq_true, decide_eq_true_eq] at he ⊢
  exact ⟨he.1, he.2.1, by omega⟩
/-- what the first i first exposures count together -/
def shS (ls : List Lk) (xs : List Ex) (w : Int) (l : List Ev) (i : Nat) : Nat := (((xs.zipIdx.take i).map fun p => shC ls xs w p.2 p.1 l)).sum
theorem shS_succ {ls : List Lk} {xs : List Ex} {w : Int} {l : List Ev} {i : Nat} (h : i < xs.length) : shS ls xs w l (i + 1) = shS ls xs w l i + shC ls xs w i xs[i] l := by
  unfold shS
  rw [List.take_succ_eq_append_getElem (by simpa using h), List.map_append, List.sum_append]
  simp [List.getElem_zipIdx]
/-- at most one first exposure counts an event -/
theorem sum_one {α : Type} (q : α → Nat) (L : List (α × Nat)) (p : α → Nat → Bool) (h : ∀ x ∈ L, ∀ y ∈ L, p x.1 x.2 = true → p y.1 y.2 = true → x.2 = y.2) (hn : (L.map (·.2)).Nodup) : (L.map fun x => if p x.1 x.2 = true then 1 else 0).sum ≤ (1 : Nat) := by
  induction L with
  | nil => simp
  | cons x r ih =>
    rw [List.map_cons, List.sum_cons]
    rw [List.map_cons, List.nodup_cons] at hn
    have ih := ih (fun a ha b hb => h a (List.mem_cons_of_mem _ ha) b (List.mem_cons_of_mem _ hb)) hn.2
    by_cases hx : p x.1 x.2 = true
    · rw [if_pos hx]
      have h0 : (r.map fun x => if p x.1 x.2 = true then 1 else 0).sum = 0 := by
        rw [List.sum_eq_zero_iff_forall_eq_nat]
        intro n hn'
        obtain ⟨y, hy, rfl⟩ := List.mem_map.1 hn'
        rw [if_neg]
        intro hp
        exact hn.1 (List.mem_map.2 ⟨y, hy, (h x List.mem_cons_self y (List.mem_cons_of_mem _ hy) hx hp).symm⟩)
      omega
    · rw [if_neg hx]; omega
theorem sum_add {α : Type} (f g : α → Nat) : ∀ (L : List α), (L.map fun x => f x + g x).sum = (L.map f).sum + (L.map g).sum := by
  intro L
  induction L with
  | nil => rfl
  | cons x r ih => simp only [List.map_cons, List.sum_cons, ih]; omega
theorem shS_le (ls : List Lk) (xs : List Ex) (w : Int) (l : List Ev) (i : Nat) : shS ls xs w l i ≤ l.countP fun e => decide (e.name = buyB) := by
  unfold shS
  have hnd : ((xs.zipIdx.take i).map (·.2)).Nodup := by
    rw [List.map_take]
    refine (List.take_sublist _ _).nodup ?_
    rw [List.zipIdx_map_snd]
    exact List.nodup_range' ..
  generalize xs.zipIdx.take i = L at *
  induction l with
  | nil =>
    have : ∀ n ∈ L.map (fun p => shC ls xs w p.2 p.1 []), n = 0 := fun n hn => by
      obtain ⟨p, _, rfl⟩ := List.mem_map.1 hn
      rfl
    rw [List.sum_eq_zero_iff_forall_eq_nat.2 this]
    exact Nat.zero_le _
  | cons e r ih =>
    have e1 : (L.map fun p => shC ls xs w p.2 p.1 (e :: r)) = L.map fun p => shC ls xs w p.2 p.1 r + if shP ls xs w p.2 p.1 e = true then 1 else 0 := by
      apply List.map_congr_left
      intro p _
      unfold shC
      rw [List.countP_cons]
    rw [e1, sum_add, List.countP_cons]
    refine Nat.add_le_add ih ?_
    by_cases hn : e.name = buyB
    · rw [if_pos (by simpa using hn)]
      refine sum_one (fun _ => 0) L (fun x k => shP ls xs w k x e) (fun x _ y _ h1 h2 => ?_) hnd
      unfold shP at h1 h2
      simp only [Bool.and_eq_true, decide_eq_true_eq] at h1 h2
      have := h1.1.1.symm.trans h2.1.1
      injection this
    · have : ∀ n ∈ L.map (fun p => if shP ls xs w p.2 p.1 e = true then 1 else 0), n = 0 := fun n hn' => by
        obtain ⟨p, _, rfl⟩ := List.mem_map.1 hn'
        rw [if_neg]
        unfold shP
        simp [hn]
      rw [List.sum_eq_zero_iff_forall_eq_nat.2 this]
      exact Nat.zero_le _
/-- all samples are final -/
theorem smpS_all {l : List Ev} {name : By} {m : Mt} {mark : Int} (h : ∀ x ∈ fstS l name, x.time + m.window ≤ mark) : smpS l name m mark = (fstS l name).zipIdx.map fun p => smpE l name m p.2 p.1 := by
  unfold smpS
  rw [List.filter_eq_self.2]
  rintro ⟨x, k⟩ hp
  have := List.mem_zipIdx hp
  simp only [decide_eq_true_eq]
  refine h x ?_
  have h3 := this.2.2
  rw [h3]
  exact List.getElem_mem _
theorem smpS_get {l : List Ev} {name : By} {m : Mt} {mark : Int} (h : ∀ x ∈ fstS l name, x.time + m.window ≤ mark) (i : Nat) (x : Ex) (hx : (fstS l name)[i]? = some x) : (smpS l name m mark)[i]? = some (smpE l name m i x) := by
  rw [smpS_all h, List.getElem?_map, List.getElem?_zipIdx, hx]
  simp
theorem smpS_len {l : List Ev} {name : By} {m : Mt} {mark : Int} (h : ∀ x ∈ fstS l name, x.time + m.window ≤ mark) : (smpS l name m mark).length = (fstS l name).length := by
  rw [smpS_all h]; simp
theorem ofK_cnt (l : List Ev) : (ofK 2 l).countP (fun e => decide (e.name = buyB)) = l.countP fun e => decide (e.kind = 2) && decide (e.name = buyB) := by
  unfold ofK
  rw [List.countP_filter]
  congr 1
  funext e
  rw [Bool.and_comm]
def shM (W : Int) : Mt := ⟨2, buyB, [], W, 1000, -1099511627776, 0⟩
theorem shM_ok {W : Int} (h : 1 ≤ W ∧ W ≤ 1000) : mtC (shM W) = 0 := by
  have hk : kyM buyB = true := by kernel_rfl
  unfold mtC shM
  dsimp only
  rw [if_neg (by decide), if_neg (by rw [hk]; decide), if_neg (by omega), if_neg (by decide)]
theorem sh_val {l : List Ev} {name : By} {W : Int} (hB : EvB l) (h60 : l.length ≤ 60) (k : Nat) (x : Ex) : (smpE l name (shM W) k x).value = ((shC (lksE l) (fstS l name) W k x (ofK 2 l) : Nat) : Int) := by
  show lim (shM W) (mtV (shM W) (insE (lksE l) (fstS l name) W k x (ofK 2 l))) = _
  rw [mtV_count rfl _ fun e he => by
    have := hB.val e (List.mem_filter.1 (insE_sub _ _ _ _ _ _ e he)).1
    show (-1099511627776 : Int) ≤ e.val
    omega]
  have e1 := insE_cnt (lksE l) (fstS l name) W k x (ofK 2 l)
  have h1 : (insE (lksE l) (fstS l name) W k x (ofK 2 l)).countP (fun e => decide (e.name = buyB)) ≤ l.length := Nat.le_trans List.countP_le_length (Nat.le_trans (insE_len _ _ _ _ _ _) (ofK_le 2 l))
  show max 0 (min (((insE (lksE l) (fstS l name) W k x (ofK 2 l)).countP fun e => decide (e.name = buyB) : Nat) : Int) 1000) = _
  rw [e1] at h1 ⊢
  omega
set_option maxHeartbeats 8000000 in
set_option maxRecDepth 100000 in
theorem lawSharesA (m : By) (w1 w2 w3 : Nat) (hw1 : w1 < 256) (hw2 : w2 < 256) (hw3 : w3 < 256) : AFn Tryd.prog GS 4 [bs m, u8v w1, u8v w2, u8v w3] 0 [] (Is (bv true)) := by
  refine afn_of Tryd.func4 rfl mixed (by kernel_rfl) ?_
  conv => whnf
  (refine acallF [] (by kernel_rfl) (awakeA) ?_ ?_; (focus ((repeat' (first | rfl | trivial | apply And.intro)); done)); rintro _ _ _ ⟨rfl, rfl, rfl⟩; (conv => whnf))
  refine vif_split (fun h => ?_) (fun h => ?_)
  · conv => whnf
    exact aret [] (by repeat' (first | rfl | trivial | apply And.intro))
  have hm : m.length ≤ 300 := by simp at h; omega
  conv => whnf
  (refine acallF [] (by kernel_rfl) (eventsA m (by omega)) ?_ ?_; (focus (repeat' (first | rfl | trivial | apply And.intro))))
  rintro _ _ _ ⟨l, hP, rfl, rfl, rfl⟩
  have hlen := hP.len
  conv => whnf
  (refine acallF [] (by kernel_rfl) (expTA) ?_ ?_; (focus (repeat' (first | rfl | trivial | apply And.intro))))
  rintro _ _ _ ⟨rfl, rfl, rfl⟩
  obtain ⟨name, hname⟩ := exp_at w1
  conv => whnf
  refine AAr.i64 (by omega) ?_
  conv => whnf
  refine VReq.mk (by decide) ?_
  conv => whnf
  refine AIn.mk' (w1 % 2) rfl (by have : w1 % 2 < 2 := Nat.mod_lt _ (by decide); show w1 % 2 < 4; omega) ?_
  conv => whnf
  refine ARd.mapAt hname ?_
  conv => whnf
  refine AAr.i64 (by omega) ?_
  conv => whnf
  refine VReq.mk (by decide) ?_
  conv => whnf
  have hW : w2 % 60 < 60 := Nat.mod_lt _ (by decide)
  refine AAr.i64 (by show _ ≤ 1 + ((w2 % 60 : Nat) : Int) ∧ 1 + ((w2 % 60 : Nat) : Int) ≤ _; omega) ?_
  have hW2 : 1 ≤ 1 + (w2 : Int).tmod 60 ∧ 1 + (w2 : Int).tmod 60 ≤ 60 := by show 1 ≤ 1 + ((w2 % 60 : Nat) : Int) ∧ 1 + ((w2 % 60 : Nat) : Int) ≤ 60; omega
  generalize 1 + (w2 : Int).tmod 60 = W at *
  conv => whnf
  refine AAr.i64 (by omega) ?_
  conv => whnf
  refine AAr.i64 (by omega) ?_
  conv => whnf
  have hB := hP.bnd
  have hft : ∀ x ∈ fstS l name, 0 ≤ x.time ∧ x.time ≤ 180 := fun x hx => by
    obtain ⟨e, he, rfl⟩ := fstX_mem _ x hx
    exact (hP.all e (List.mem_filter.1 he).1).time
  have hS : ∀ V, 1 ≤ V ∧ V ≤ 1000 → AFn Tryd.prog GS 14 [el l, tv name, mtA (shM V), iv 5000] 0 [] (Is (smL (smpS l name (shM V) 5000))) := fun V hV => by
    have := samplesA l name (shM V) 5000 hB (Nat.le_of_ble_eq_true rfl) (Nat.le_of_ble_eq_true rfl)
    rw [if_pos (shM_ok hV)] at this
    exact this
  have hs1 := hS W (by omega)
  have hs2 := hS (W + w3) (by omega)
  (refine adraw pln4 [] (by kernel_rfl) ?_; conv => whnf)
  repeat' (first
    | (refine And.intro ?_ ?_ <;> (conv => whnf))
    | ((refine acallF [] (by kernel_rfl) (hs1) ?_ ?_; (focus ((repeat' (first | rfl | trivial | apply And.intro)); done)); rintro _ _ _ ⟨rfl, rfl, rfl⟩; (conv => whnf)))
    | ((refine acallF [] (by kernel_rfl) (hs2) ?_ ?_; (focus ((repeat' (first | rfl | trivial | apply And.intro)); done)); rintro _ _ _ ⟨rfl, rfl, rfl⟩; (conv => whnf))))
  have hcn : ∀ i, i ≤ l.length → (l.take i).countP (fun e => decide (e.kind = 2) && decide (e.name = buyB)) ≤ i := fun i hi => Nat.le_trans List.countP_le_length (by rw [List.length_take]; omega)
  refine aloop ws4_1 3 [15, 17] (fun i : Nat => [(15, iv (((l.take i).countP fun e => decide (e.kind = 2) && decide (e.name = buyB) : Nat) : Int)), (17, iv i)]) (fun _ => []) (fun i => i ≤ l.length) (fun i => l.length - i) [] [] 0 (by kernel_rfl) (fun _ => rfl) rfl (Nat.zero_le _) (by repeat' (first | rfl | trivial | apply And.intro)) (by repeat' (first | rfl | trivial | apply And.intro)) ?_
  intro i hi
  have hci := hcn i hi
  conv => whnf
  refine vif_split (fun h => ?_) (fun h => ?_)
  · have hlt : i < l.length := by simp at h; omega
    have hg := List.getElem?_eq_getElem hlt
    have hsn : (l.take (i + 1)).countP (fun e => decide (e.kind = 2) && decide (e.name = buyB)) = (l.take i).countP (fun e => decide (e.kind = 2) && decide (e.name = buyB)) + if (decide (l[i].kind = 2) && decide (l[i].name = buyB)) = true then 1 else 0 := by
      rw [List.take_succ_eq_append_getElem hlt, List.countP_append, List.countP_singleton]
    generalize l[i] = e at *
    generalize (l.take i).countP (fun e => decide (e.kind = 2) && decide (e.name = buyB)) = c at *
    conv => whnf
    refine AIn.mk' i rfl (by rw [List.length_map]; exact hlt) ?_
    conv => whnf
    refine ARd.mapAt hg ?_
    conv => whnf
    refine vif_split (fun h1 => ?_) (fun h1 => ?_)
    rotate_left 1
    · rw [if_neg (fun h => by simp at h h1; exact h1 h.1)] at hsn
      conv => whnf
      refine AAr.i64 (by omega) ?_
      conv => whnf
      exact aback (i + 1) [] [] rfl (by show l.length - (i + 1) < l.length - i; omega) hlt (by repeat' (first | rfl | trivial | apply And.intro)) ⟨congrArg (fun x : Nat => Value.int .i64 (x : Int)) hsn.symm, rfl, trivial⟩
    conv => whnf
    refine AIn.mk' i rfl (by rw [List.length_map]; exact hlt) ?_
    conv => whnf
    refine ARd.mapAt hg ?_
    conv => whnf
    refine vif_split (fun h2 => ?_) (fun h2 => ?_)
    · have h2 : e.name = buyB := by
        have : sEq ⟨e.name.toArray⟩ ⟨buyB.toArray⟩ = true := h2
        simpa [sEq_tx] using this
      rw [if_pos (by simp at h1; simp [h1, h2])] at hsn
      conv => whnf
      refine AAr.i64 (by omega) ?_
      conv => whnf
      refine AAr.i64 (by omega) ?_
      conv => whnf
      exact aback (i + 1) [] [] rfl (by show l.length - (i + 1) < l.length - i; omega) hlt (by repeat' (first | rfl | trivial | apply And.intro)) ⟨congrArg (fun x : Nat => Value.int .i64 (x : Int)) hsn.symm, rfl, trivial⟩
    · have h2 : ¬ e.name = buyB := by
        have : sEq ⟨e.name.toArray⟩ ⟨buyB.toArray⟩ = false := h2
        simpa [sEq_tx] using this
      rw [if_neg (fun h => by simp at h; exact h2 h.2)] at hsn
      conv => whnf
      refine AAr.i64 (by omega) ?_
      conv => whnf
      exact aback (i + 1) [] [] rfl (by show l.length - (i + 1) < l.length - i; omega) hlt (by repeat' (first | rfl | trivial | apply And.intro)) ⟨congrArg (fun x : Nat => Value.int .i64 (x : Int)) hsn.symm, rfl, trivial⟩
  have hie : i = l.length := by simp at h; omega
  subst hie
  rw [List.take_length, ← ofK_cnt]
  have hl1 := smpS_len (l := l) (name := name) (m := shM W) (mark := 5000) fun x hx => by have := hft x hx; show x.time + W ≤ 5000; omega
  have hl2 := smpS_len (l := l) (name := name) (m := shM (W + w3)) (mark := 5000) fun x hx => by have := hft x hx; show x.time + (W + w3) ≤ 5000; omega
  have hg1 := smpS_get (l := l) (name := name) (m := shM W) (mark := 5000) fun x hx => by have := hft x hx; show x.time + W ≤ 5000; omega
  have hg2 := smpS_get (l := l) (name := name) (m := shM (W + w3)) (mark := 5000) fun x hx => by have := hft x hx; show x.time + (W + w3) ≤ 5000; omega
  have hv := fun V k x => sh_val (name := name) (W := V) hB hlen k x
  have hle := fun i => shS_le (lksE l) (fstS l name) W (ofK 2 l) i
  have hsx := fun i => shS_succ (ls := lksE l) (xs := fstS l name) (w := W) (l := ofK 2 l) (i := i)
  have hxl : (fstS l name).length ≤ 60 := Nat.le_trans (fstX_len _ _ _) (Nat.le_trans (ofK_le 1 l) hlen)
  generalize smpS l name (shM W) 5000 = sa at *
  generalize smpS l name (shM (W + w3)) 5000 = sb at *
  conv => whnf
  refine vif_split (fun h1 => ?_) (fun h1 => ?_)
  · exfalso; simp at h1; omega
  conv => whnf
  (refine acallF [] (by kernel_rfl) (jFirstA l name (by omega)) ?_ ?_; (focus (repeat' (first | rfl | trivial | apply And.intro))))
  rintro _ _ _ ⟨rfl, rfl, rfl⟩
  conv => whnf
  refine vif_split (fun h2 => ?_) (fun h2 => ?_)
  · exfalso; simp at h2; omega
  conv => whnf
  refine aloop ws4_2 3 [16, 18] (fun i : Nat => [(16, iv ((shS (lksE l) (fstS l name) W (ofK 2 l) i : Nat) : Int)), (18, iv i)]) (fun _ => []) (fun i => i ≤ (fstS l name).length) (fun i => (fstS l name).length - i) [] [] 0 (by kernel_rfl) (fun _ => rfl) rfl (Nat.zero_le _) (by repeat' (first | rfl | trivial | apply And.intro)) (by repeat' (first | rfl | trivial | apply And.intro)) ?_
  intro i hi
  have hli := Nat.le_trans (hle i) (Nat.le_trans List.countP_le_length (ofK_le 2 l))
  conv => whnf
  refine vif_split (fun h3 => ?_) (fun h3 => ?_)
  rotate_left 1
  · have h4 := hle i
    conv => whnf
    exact aret [] (congrArg Value.bool (by simp; omega))
  have hlt : i < (fstS l name).length := by simp at h3; omega
  have hgx := List.getElem?_eq_getElem hlt
  have hsi := hsx i hlt
  generalize (fstS l name)[i] = x at *
  have ga := hg1 i x hgx
  have gb := hg2 i x hgx
  have va := hv W i x
  have vb := hv (W + w3) i x
  have hmo := shC_mono (lksE l) (fstS l name) (show W ≤ W + w3 by omega) i x (ofK 2 l)
  have hmi := mixE_mono (lksE l) (fstS l name) name (show W ≤ W + w3 by omega) i x (ofK 1 l)
  have xa : (smpE l name (shM W) i x).x = x := rfl
  have xb : (smpE l name (shM (W + w3)) i x).x = x := rfl
  have ma : (smpE l name (shM W) i x).mixed = mixE (lksE l) (fstS l name) name W i x (ofK 1 l) := rfl
  have mb : (smpE l name (shM (W + w3)) i x).mixed = mixE (lksE l) (fstS l name) name (W + w3) i x (ofK 1 l) := rfl
  have hcl : shC (lksE l) (fstS l name) W i x (ofK 2 l) ≤ 60 := Nat.le_trans List.countP_le_length (Nat.le_trans (ofK_le 2 l) hlen)
  generalize smpE l name (shM W) i x = A at *
  generalize smpE l name (shM (W + w3)) i x = B at *
  generalize mixE (lksE l) (fstS l name) name W i x (ofK 1 l) = mxa at *
  generalize mixE (lksE l) (fstS l name) name (W + w3) i x (ofK 1 l) = mxb at *
  generalize shC (lksE l) (fstS l name) W i x (ofK 2 l) = ca at *
  generalize shC (lksE l) (fstS l name) (W + w3) i x (ofK 2 l) = cb at *
  obtain ⟨Ax, Av, Ab, Af, Am⟩ := A
  obtain ⟨Bx, Bv, Bb, Bf, Bm⟩ := B
  dsimp only at va vb xa xb ma mb
  subst va; subst vb; subst xa; subst xb; subst ma; subst mb
  have hia : i < sa.length := by omega
  have hib : i < sb.length := by omega
  conv => whnf
  refine AIn.mk' i rfl (by rw [List.length_map]; exact hia) ?_
  conv => whnf
  refine ARd.mapAt ga ?_
  conv => whnf
  refine AAr.i64 (by dsimp only; omega) ?_
  conv => whnf
  (refine adraw pln4 [] (by kernel_rfl) ?_; conv => whnf)
  refine AIn.mk' i rfl (by rw [List.length_map]; exact hia) ?_
  conv => whnf
  refine ARd.mapAt ga ?_
  conv => whnf
  refine AIn.mk' i rfl (by rw [List.length_map]; exact hib) ?_
  conv => whnf
  refine ARd.mapAt gb ?_
  conv => whnf
  refine vif_split (fun h4 => ?_) (fun h4 => ?_)
  · exfalso; simp at h4; omega
  conv => whnf
  repeat' (first
    | (refine And.intro ?_ ?_ <;> (conv => whnf))
    | (refine AIn.mk' i rfl (by rw [List.length_map]; exact hia) ?_; conv => whnf)
    | (refine ARd.mapAt ga ?_; conv => whnf)
    | (refine AIn.mk' i rfl (by rw [List.length_map]; exact hib) ?_; conv => whnf)
    | (refine ARd.mapAt gb ?_; conv => whnf)
    | (refine AEq.mk (by kernel_rfl) rfl rfl ?_; conv => whnf))
  refine vif_split (fun h5 => ?_) (fun h5 => ?_)
  · exfalso; simp [sEqD] at h5
  conv => whnf
  refine AIn.mk' i rfl (by rw [List.length_map]; exact hia) ?_
  conv => whnf
  refine ARd.mapAt ga ?_
  conv => whnf
  repeat' (first
    | (refine AIn.mk' i rfl (by rw [List.length_map]; exact hib) ?_; conv => whnf)
    | (refine ARd.mapAt gb ?_; conv => whnf)
    | (refine AAr.i64 (by omega) ?_; conv => whnf)
    | (refine vif_split (fun h6 => ?_) (fun h6 => ?_) <;> (first | (exfalso; simp_all; done) | (conv => whnf))))
  all_goals (exact aback (i + 1) [] [] rfl (by show (fstS l name).length - (i + 1) < (fstS l name).length - i; omega) hlt (by repeat' (first | rfl | trivial | apply And.intro)) ⟨by rw [hsi]; exact congrArg (Value.int .i64) rfl, rfl, trivial⟩)
end Go.Proofs.YtmnjmdajgilhiaaDoor.Cl

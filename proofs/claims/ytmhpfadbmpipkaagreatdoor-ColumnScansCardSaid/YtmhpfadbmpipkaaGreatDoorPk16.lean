/- Joined parts of the proof. The walks of the reference's distinct, index and width -/
import Derived.Test.YtmhpfadbmpipkaaGreatDoorPk11
import Derived.Test.YtmhpfadbmpipkaaGreatDoorPk13
import Derived.Test.YtmhpfadbmpipkaaGreatDoorPk15
set_option linter.unusedVariables false
set_option linter.unusedSimpArgs false
set_option maxRecDepth 100000
set_option maxHeartbeats 16000000
namespace Go.Proofs.YtmhpfadbmpipkaaGreatDoor.Cl
open Go Go.RowKit Go.Proofs Go.Proofs.YtmhpfadbmpipkaaGreatDoor.Vc Go.Proofs.YtmhpfadbmpipkaaGreatDoor.Ax
attribute [local irreducible] loadVar storeVar Instr.indexAt Instr.index Instr.sliceAt Instr.makeSlice Instr.lookup Instr.mapUpdate Instr.range Instr.next Instr.entry Instr.makeMap Builtin.append_ Builtin.copy_ Builtin.len_ Builtin.min_ Builtin.max_ Builtin.cap_ Builtin.delete_ Builtin.clear_ convert binOp eqGuard Op.unary Calls
theorem ins_split : ∀ (d : Li) (x : Int) (k : Nat), k ≤ d.length → (∀ j (h1 : j < k) (h2 : j < d.length), d[j] < x) → (∀ h : k < d.length, x ≤ d[k]) → ins d x = if ∃ h : k < d.length, d[k] = x then d else d.take k ++ [x] ++ d.drop k := by
 intro d
 induction d with
 | nil =>
  intro x k hk _ _
  have : k = 0 := by simpa using hk
  subst this; simp [ins]
 | cons y r ih =>
  intro x k hk h1 h2
  unfold ins
  cases k with
  | zero =>
   have h3 : x ≤ y := h2 (by simp)
   rw [if_neg (by omega)]
   by_cases e : y = x
   ·rw [if_pos e, if_pos ⟨by simp, e⟩]
   ·rw [if_neg e, if_neg (by rintro ⟨_, h⟩; exact e h)]; simp
  | succ k =>
   have h3 : y < x := h1 0 (by omega) (by simp)
   rw [if_pos h3]
   have := ih x k (by simpa using hk) (fun j hj hjl => h1 (j + 1) (by omega) (by simp; omega)) (fun h => h2 (by simp; omega))
   rw [this]
   by_cases e : ∃ h : k < r.length, r[k] = x
   ·rw [if_pos e, if_pos (by obtain ⟨h, e⟩ := e; exact ⟨by simp; omega, e⟩)]
   ·rw [if_neg e, if_neg (by rintro ⟨h, e2⟩; exact e ⟨by simpa using h, e2⟩)]; simp
theorem idx_first {d : Li} {k : Nat} {x : Int} {h : k < d.length} (e : d[k] = x) : idx d x ≤ k := by
 induction d generalizing k with
 | nil => simp at h
 | cons y r ih =>
  unfold idx
  split
  ·omega
  ·rename_i hy
   cases k with
   | zero => exact absurd e hy
   | succ k => have := ih (k := k) (h := by simpa using h) (by simpa using e); omega
theorem wid_succ (f v : Nat) : wid (f + 1) v = if v = 0 then 0 else wid f (v / 2) + 1 := rfl
theorem ins_rows (d : Li) (x : Int) (k : Nat) : [] ++ ((d.map enI).drop 0).take (k - 0) ++ [[FV.v (Value.int .i64 x)]] ++ ((d.map enI).drop k).take (d.length - k) = (d.take k ++ [x] ++ d.drop k).map enI := by
 rw [List.nil_append, List.drop_zero, Nat.sub_zero, List.take_of_length_le (by simp : ((d.map enI).drop k).length ≤ d.length - k), List.map_append, List.map_append, List.map_take, List.map_drop]
 rfl
theorem distinctA (l : Li) (hs : l.length ≤ 1000000) : AFn Tryz.prog GC 112 [li l] 0 [] (Own1 3 1 ((ds l).map enI)) := by
 refine afn_of Tryz.func112 rfl mixed (by kernel_rfl) ?_
 conv => whnf
 refine aloop ws112_1 1 [3, 4] (fun i : Nat => [(3, .own 0), (4, iv i)]) (fun i => [(0, .rows 3 1 ((ds (l.take i)).map enI))]) (fun i => i ≤ l.length) (fun i => l.length - i) [(0, .nil)] [] 0 (by kernel_rfl) (fun _ => rfl) rfl (Nat.zero_le _) ⟨rfl, trivial⟩ ⟨trivial, rfl, trivial⟩ ?_
 rintro i hi
 have hdl := ds_len (l.take i)
 rw [List.length_take] at hdl
 conv => whnf
 apply vif_split <;> intro h
 rotate_left 1
 ·have : i = l.length := by simp at h; omega
  subst this
  conv => whnf
  rw [List.take_length]
  exact aend (.own 0) 1 _ [(0, .lab 0)] [] ⟨rfl, rfl, rfl⟩ rfl (by repeat' (first | rfl | trivial | apply And.intro)) (by repeat' (first | rfl | trivial | apply And.intro))
 have hlt : i < l.length := by simp at h; omega
 have hnext : ds (l.take (i + 1)) = ins (ds (l.take i)) l[i] := by rw [List.take_succ_eq_append_getElem hlt, ds_snoc]
 generalize hd : ds (l.take i) = d at *
 conv => whnf
 refine aloopH ws112_2 [5] (fun k : Nat => [(5, iv k)]) (fun k => k ≤ d.length ∧ ∀ j (h1 : j < k) (h2 : j < d.length), d[j] < l[i]) (fun k => d.length - k) 0 (by kernel_rfl) (fun _ => rfl) (by kernel_rfl) ⟨Nat.zero_le _, fun j h1 => absurd h1 (Nat.not_lt_zero j)⟩ (by repeat' (first | rfl | trivial | apply And.intro)) (by repeat' (first | rfl | trivial | apply And.intro)) ?_
 rintro k ⟨hk, hno⟩
 conv => whnf
 (refine adraw pln112 [] (by kernel_rfl) ?_; conv => whnf)
 (repeat' ((first | refine And.intro ?_ ?_ | (apply vif_split <;> intro h <;> try simp only [bl] at h) | refine AAr.i64 (by first | omega | ((try simp only [List.length_map] at *); omega)) ?_ | refine AIn.mk' _ rfl (by first | omega | (simp only [ln]; omega) | (simp only [ln] at *; omega)) ?_ | refine ARd.mapAt (by assumption) ?_ | refine ARd.set (by (try simp only [ln] at *); omega) ?_ | refine ARd.map (by first | omega | (simp only [List.length_map] at *; omega)) ?_ | refine VReq.mk (by first | decide | omega) ?_ | refine AEq.mk (by kernel_rfl) rfl rfl ?_ | refine VReq.mk (app_ok (by (try simp only [ln] at *); omega) (by kernel_rfl)) ?_) <;> conv => whnf))
 ·rename_i h1
  have hkl : k < d.length := by simp at h1; omega
  exact aback (k + 1) [] [] rfl (by show d.length - (k + 1) < d.length - k; omega) ⟨hkl, fun j h2 h3 => by
   rcases Nat.lt_or_ge j k with h4 | h4
   ·exact hno j h4 h3
   ·have : j = k := by omega
    subst this; exact h⟩ (by repeat' (first | rfl | trivial | apply And.intro)) ⟨rfl, trivial⟩
 ·rename_i h1
  have hkl : k < d.length := by simp at h1; omega
  have hins := ins_split d l[i] k hk hno fun _ => h
  (refine adraw pln112 [] (by kernel_rfl) ?_; conv => whnf)
  (repeat' ((first | refine And.intro ?_ ?_ | (apply vif_split <;> intro h <;> try simp only [bl] at h) | refine AAr.i64 (by first | omega | ((try simp only [List.length_map] at *); omega)) ?_ | refine AIn.mk' _ rfl (by first | omega | (simp only [ln]; omega) | (simp only [ln] at *; omega)) ?_ | refine ARd.mapAt (by assumption) ?_ | refine ARd.set (by (try simp only [ln] at *); omega) ?_ | refine ARd.map (by first | omega | (simp only [List.length_map] at *; omega)) ?_ | refine VReq.mk (by first | decide | omega) ?_ | refine AEq.mk (by kernel_rfl) rfl rfl ?_ | refine VReq.mk (app_ok (by (try simp only [ln] at *); omega) (by kernel_rfl)) ?_) <;> conv => whnf))
  ·exfalso; rename_i h3; simp only [List.length_map] at *; omega
  ·rename_i h3
   rw [if_neg (by rintro ⟨_, h4⟩; exact h h4)] at hins
   ·skip
    (refine adraw pln112 [0, 1, 2, 3, 4, 5] (by kernel_rfl) ?_; conv => whnf)
    repeat' (first
     | (refine And.intro ?_ ?_ <;> (conv => whnf))
     | (refine ABd.mk' 0 k rfl rfl (Nat.zero_le _) (by rw [List.length_map]; omega) ?_; conv => whnf)
     | (refine ABd.mk' k d.length rfl (by rw [List.length_map]) hk (by rw [List.length_map]; exact Nat.le_refl _) ?_; conv => whnf)
     | (refine AIn.mk' i rfl (by rw [List.length_map]; exact hlt) ?_; conv => whnf)
     | (refine ARd.map hlt ?_; conv => whnf)
     | (refine VReq.mk (app_ok (by (try simp only [ln] at *); omega) (by kernel_rfl)) ?_; conv => whnf))
    all_goals
     refine AAr.i64 (x := (i : Int) + 1) (by omega) ?_
     conv => whnf
     refine aback (i + 1) [(0, .lab 5)] [] rfl (by show l.length - (i + 1) < l.length - i; omega) hlt ⟨⟨rfl, rfl, ?_⟩, trivial⟩ ⟨rfl, rfl, trivial⟩
     rw [hnext, hins]
     exact ins_rows d l[i] k
  ·rename_i h3
   rw [if_pos ⟨hkl, h⟩] at hins
   exact aback (i + 1) [(0, .lab 0)] [] rfl (by show l.length - (i + 1) < l.length - i; omega) hlt ⟨⟨rfl, rfl, by rw [hnext, hins]⟩, trivial⟩ ⟨rfl, rfl, trivial⟩
 ·have hkl : k = d.length := by simp at h; omega
  have hins := ins_split d l[i] k hk hno fun h => by omega
  rw [if_neg (by rintro ⟨h, _⟩; omega)] at hins
  (refine adraw pln112 [] (by kernel_rfl) ?_; conv => whnf)
  refine vif_split (fun h5 => ?_) (fun h5 => ?_)
  rotate_left 1
  ·exfalso; simp at h5; omega
  conv => whnf
  ·skip
   ·skip
    (refine adraw pln112 [0, 1, 2, 3, 4, 5] (by kernel_rfl) ?_; conv => whnf)
    repeat' (first
     | (refine And.intro ?_ ?_ <;> (conv => whnf))
     | (refine ABd.mk' 0 k rfl rfl (Nat.zero_le _) (by rw [List.length_map]; omega) ?_; conv => whnf)
     | (refine ABd.mk' k d.length rfl (by rw [List.length_map]) hk (by rw [List.length_map]; exact Nat.le_refl _) ?_; conv => whnf)
     | (refine AIn.mk' i rfl (by rw [List.length_map]; exact hlt) ?_; conv => whnf)
     | (refine ARd.map hlt ?_; conv => whnf)
     | (refine VReq.mk (app_ok (by (try simp only [ln] at *); omega) (by kernel_rfl)) ?_; conv => whnf))
    all_goals
     refine AAr.i64 (x := (i : Int) + 1) (by omega) ?_
     conv => whnf
     refine aback (i + 1) [(0, .lab 5)] [] rfl (by show l.length - (i + 1) < l.length - i; omega) hlt ⟨⟨rfl, rfl, ?_⟩, trivial⟩ ⟨rfl, rfl, trivial⟩
     rw [hnext, hins]
     exact ins_rows d l[i] k
theorem indexA (d : Li) (x : Int) (hx : x ∈ d) (hs : d.length ≤ 1000000) : AFn Tryz.prog GC 113 [li d, iv x] 0 [] (Is (iv (idx d x))) := by
 have hi := idx_lt hx
 refine afn_of Tryz.func113 rfl mixed (by kernel_rfl) ?_
 conv => whnf
 refine aloopH ws113_1 [5] (fun k : Nat => [(5, iv k)]) (fun k => k ≤ idx d x) (fun k => d.length - k) 0 (by kernel_rfl) (fun _ => rfl) (by kernel_rfl) (Nat.zero_le _) (by repeat' (first | rfl | trivial | apply And.intro)) (by repeat' (first | rfl | trivial | apply And.intro)) ?_
 rintro k hk
 have hkl : k < d.length := by omega
 conv => whnf
 apply vif_split <;> intro h
 rotate_left 1
 ·exfalso; simp at h; omega
 conv => whnf
 refine AIn.mk' k rfl (by rw [List.length_map]; exact hkl) ?_
 conv => whnf
 refine ARd.map hkl ?_
 conv => whnf
 apply vif_split <;> intro h
 ·have e : d[k] = x := by simpa using h
  have e2 : idx d x = k := by
   have := idx_first e
   omega
  conv => whnf
  rw [e2]
  exact aret [] (by repeat' (first | rfl | trivial | apply And.intro))
 ·have e : d[k] ≠ x := by simpa using h
  have e2 : k ≠ idx d x := fun e2 => by subst e2; exact e (by have := hi.2; rw [List.getElem?_eq_getElem hkl] at this; injection this)
  conv => whnf
  refine AAr.i64 (by omega) ?_
  conv => whnf
  exact aback (k + 1) [] [] rfl (by show d.length - (k + 1) < d.length - k; omega) (by show k + 1 ≤ idx d x; omega) trivial ⟨rfl, trivial⟩
theorem widthA (u : Nat) (hu : u < 18446744073709551616) : AFn Tryz.prog GC 114 [uv u] 0 [] (Is (iv (wid 64 u))) := by
 refine afn_of Tryz.func114 rfl mixed (by kernel_rfl) ?_
 conv => whnf
 refine aloop ws114_1 0 [0, 3] (fun x : NX => [(0, uv x.u), (3, iv x.i)]) (fun _ => []) (fun x => x.i ≤ 64 ∧ x.u < 2 ^ (64 - x.i) ∧ x.i + wid (64 - x.i) x.u = wid 64 u) (fun x => 64 - x.i) [] [] ⟨0, u⟩ (by kernel_rfl) (fun _ => rfl) rfl ⟨Nat.zero_le _, hu, Nat.zero_add _⟩ trivial ⟨rfl, rfl, trivial⟩ ?_
 rintro ⟨i, v⟩ ⟨hi, hv, hw⟩
 change i ≤ 64 at hi
 change v < 2 ^ (64 - i) at hv
 change i + wid (64 - i) v = wid 64 u at hw
 conv => whnf
 apply vif_split <;> intro h
 ·have h0 : v ≠ 0 := by simp at h; omega
  obtain ⟨f, hf⟩ : ∃ f, 64 - i = f + 1 := by
   cases he : 64 - i with
   | zero => rw [he] at hv; simp at hv; omega
   | succ f => exact ⟨f, rfl⟩
  rw [hf] at hv hw
  rw [wid_succ, if_neg h0] at hw
  have hv2 : v / 2 < 2 ^ f := by rw [Nat.pow_succ] at hv; omega
  have hf2 : 64 - (i + 1) = f := by omega
  conv => whnf
  refine VReq.mk (by decide) ?_
  conv => whnf
  refine AAr.i64 (x := (i : Int) + 1) (by omega) ?_
  conv => whnf
  exact aback ⟨i + 1, v / 2⟩ [] [] rfl (by show 64 - (i + 1) < 64 - i; omega) ⟨by show i + 1 ≤ 64; omega, by show v / 2 < 2 ^ (64 - (i + 1)); rw [hf2]; exact hv2, by show i + 1 + wid (64 - (i + 1)) (v / 2) = _; rw [hf2]; omega⟩ trivial ⟨congrArg (Value.int .u64) (shrk1 v), rfl, trivial⟩
 ·have h0 : v = 0 := by simp at h; omega
  subst h0
  have : wid (64 - i) 0 = 0 := by cases 64 - i <;> simp [wid]
  rw [this] at hw
  conv => whnf
  rw [← hw]
  exact aret [] (by repeat' (first | rfl | trivial | apply And.intro))
theorem hlen2A (l : Li) (hs : l.length ≤ 512) (k : Int) : AFn Tryz.prog GC 24 [bs (num k), iv ((l.map enI).length : Nat)] 0 [] (Own1 5 1 ((num k ++ num l.length).map enB)) := by
 rw [List.length_map]
 exact put2A (num k) l.length (i64_nat (by omega)) (by have := (num_len k).2; omega)
theorem hd_len (k : Int) (l : Li) : (num k ++ num l.length).length ≤ 20 := by
 have h1 := (num_len k).2
 have h2 := (num_len (l.length : Int)).2
 rw [List.length_append]; omega
theorem enc1A (l : Li) (hl : AllI l) (hs : l.length ≤ 512) : AFn Tryz.prog GC 91 [iv 1, li l] 0 [] (Is (bs (en 1 l))) := by
 rw [← en1]
 have hh := hd_len 1 l
 refine afn_of Tryz.func91 rfl mixed (by kernel_rfl) ?_
 conv => whnf
 (refine acallF [] (by kernel_rfl) (put2A [] 1 (by unfold I64; omega) (by simp)) ?_ ?_; (focus (repeat' (first | rfl | trivial | apply And.intro))))
 rintro _ _ _ ⟨rfl, rfl, rfl⟩
 conv => whnf
 (refine acallF [0] (by kernel_rfl) (hlen2A l hs 1) ?_ ?_; (focus (repeat' (first | rfl | trivial | apply And.intro))))
 rintro _ _ _ ⟨rfl, rfl, rfl⟩
 conv => whnf
 generalize num 1 ++ num (l.length : Int) = b at *
 refine aloop ws91_1 2 [5, 6] (fun k : Nat => [(5, bs (b ++ b1 (l.take k))), (6, iv k)]) (fun _ => []) (fun k => k ≤ l.length) (fun k => l.length - k) [] [1] 0 (by kernel_rfl) (fun _ => rfl) rfl (Nat.zero_le _) trivial ⟨⟨rfl, rfl, by simp [b1]⟩, rfl, trivial⟩ ?_
 rintro k hk
 have hbl := b1_take_len l k
 conv => whnf
 refine vif_split (fun hlt => ?_) (fun hge => ?_)
 ·have hlt : k < l.length := by simpa using hlt
  conv => whnf
  (repeat' ((first | refine And.intro ?_ ?_ | (apply vif_split <;> intro h <;> try simp only [bl] at h) | refine AAr.i64 (by first | omega | ((try simp only [List.length_map] at *); omega)) ?_ | refine AIn.mk' _ rfl (by first | omega | (simp only [ln]; omega) | (simp only [ln] at *; omega)) ?_ | refine ARd.mapAt (by assumption) ?_ | refine ARd.set (by (try simp only [ln] at *); omega) ?_ | refine ARd.map (by first | omega | (simp only [List.length_map] at *; omega)) ?_ | refine VReq.mk (by first | decide | omega) ?_ | refine AEq.mk (by kernel_rfl) rfl rfl ?_ | refine VReq.mk (app_ok (by (try simp only [ln] at *); omega) (by kernel_rfl)) ?_) <;> conv => whnf))
  (refine acallF [] (by kernel_rfl) (put2A (b ++ b1 (l.take k)) l[k] (hl _ (List.getElem_mem hlt)) (by rw [List.length_append]; omega)) ?_ ?_; (focus (repeat' (first | rfl | trivial | apply And.intro))))
  rintro _ _ _ ⟨rfl, rfl, rfl⟩
  conv => whnf
  (repeat' ((first | refine And.intro ?_ ?_ | (apply vif_split <;> intro h <;> try simp only [bl] at h) | refine AAr.i64 (by first | omega | ((try simp only [List.length_map] at *); omega)) ?_ | refine AIn.mk' _ rfl (by first | omega | (simp only [ln]; omega) | (simp only [ln] at *; omega)) ?_ | refine ARd.mapAt (by assumption) ?_ | refine ARd.set (by (try simp only [ln] at *); omega) ?_ | refine ARd.map (by first | omega | (simp only [List.length_map] at *; omega)) ?_ | refine VReq.mk (by first | decide | omega) ?_ | refine AEq.mk (by kernel_rfl) rfl rfl ?_ | refine VReq.mk (app_ok (by (try simp only [ln] at *); omega) (by kernel_rfl)) ?_) <;> conv => whnf))
  refine aback (k + 1) [] [2] rfl (by show l.length - (k + 1) < l.length - k; omega) hlt trivial ⟨⟨rfl, rfl, by rw [b1_take hlt, List.append_assoc]⟩, rfl, trivial⟩
 ·have : k = l.length := by simp at hge; omega
  subst this
  conv => whnf
  rw [List.take_length]
  exact aret [] (by repeat' (first | rfl | trivial | apply And.intro))
theorem enc2A (l : Li) (hl : AllI l) (hs : l.length ≤ 512) : AFn Tryz.prog GC 91 [iv 2, li l] 0 [] (Is (bs (en 2 l))) := by
 rw [← en2]
 have hh := hd_len 2 l
 have hbl := b2_len l
 refine afn_of Tryz.func91 rfl mixed (by kernel_rfl) ?_
 conv => whnf
 (refine acallF [] (by kernel_rfl) (put2A [] 2 (by unfold I64; omega) (by simp)) ?_ ?_; (focus (repeat' (first | rfl | trivial | apply And.intro))))
 rintro _ _ _ ⟨rfl, rfl, rfl⟩
 conv => whnf
 (refine acallF [0] (by kernel_rfl) (hlen2A l hs 2) ?_ ?_; (focus (repeat' (first | rfl | trivial | apply And.intro))))
 rintro _ _ _ ⟨rfl, rfl, rfl⟩
 conv => whnf
 generalize num 2 ++ num (l.length : Int) = b at *
 refine aloop ws91_2 2 [5, 7] (fun x : LX => [(5, bs x.out), (7, iv x.k)]) (fun _ => []) (fun x => x.k ≤ l.length ∧ x.out ++ b2 (l.drop x.k) = b ++ b2 l) (fun x => l.length - x.k) [] [1] ⟨0, 0, b⟩ (by kernel_rfl) (fun _ => rfl) rfl ⟨Nat.zero_le _, rfl⟩ trivial ⟨⟨rfl, rfl, rfl⟩, rfl, trivial⟩ ?_
 rintro ⟨i, p, out⟩ ⟨hi, ho⟩
 change i ≤ l.length at hi
 change out ++ b2 (l.drop i) = b ++ b2 l at ho
 have hol : out.length ≤ b.length + 20 * l.length := by have := congrArg List.length ho; simp only [List.length_append] at this; omega
 conv => whnf
 (repeat' ((first | refine And.intro ?_ ?_ | (apply vif_split <;> intro h <;> try simp only [bl] at h) | refine AAr.i64 (by first | omega | ((try simp only [List.length_map] at *); omega)) ?_ | refine AIn.mk' _ rfl (by first | omega | (simp only [ln]; omega) | (simp only [ln] at *; omega)) ?_ | refine ARd.mapAt (by assumption) ?_ | refine ARd.set (by (try simp only [ln] at *); omega) ?_ | refine ARd.map (by first | omega | (simp only [List.length_map] at *; omega)) ?_ | refine VReq.mk (by first | decide | omega) ?_ | refine AEq.mk (by kernel_rfl) rfl rfl ?_ | refine VReq.mk (app_ok (by (try simp only [ln] at *); omega) (by kernel_rfl)) ?_) <;> conv => whnf))
 ·have hlt : i < l.length := by simp at h; omega
  conv => whnf
  refine aloop ws91_3 2 [8] (fun k : Nat => [(8, iv k)]) (fun _ => []) (fun k => RunI l i k) (fun k => l.length - k) [] [] i (by kernel_rfl) (fun _ => rfl) rfl ⟨Nat.le_refl _, hi, by simp⟩ trivial ⟨rfl, trivial⟩ ?_
  rintro k hr
  have hk := hr.2.1
  conv => whnf
  (refine adraw pln91 [] (by kernel_rfl) ?_; conv => whnf)
  have hgi : l.getD i 0 = l[i] := by rw [List.getD_eq_getElem?_getD, List.getElem?_eq_getElem hlt]; rfl
  have done : (∀ hk : k < l.length, l[k] ≠ l.getD i 0) → i < k ∧ out ++ num l[i] ++ num ((k - i : Nat) : Int) ++ b2 (l.drop k) = b ++ b2 l := fun e => by
   have := hr.fin hlt e
   refine ⟨this.1, ?_⟩
   rw [← ho, this.2, hgi]
   simp only [List.append_assoc]
  (repeat' ((first | refine And.intro ?_ ?_ | (apply vif_split <;> intro h <;> try simp only [bl] at h) | refine AAr.i64 (by first | omega | ((try simp only [List.length_map] at *); omega)) ?_ | refine AIn.mk' _ rfl (by first | omega | (simp only [ln]; omega) | (simp only [ln] at *; omega)) ?_ | refine ARd.mapAt (by assumption) ?_ | refine ARd.set (by (try simp only [ln] at *); omega) ?_ | refine ARd.map (by first | omega | (simp only [List.length_map] at *; omega)) ?_ | refine VReq.mk (by first | decide | omega) ?_ | refine AEq.mk (by kernel_rfl) rfl rfl ?_ | refine VReq.mk (app_ok (by (try simp only [ln] at *); omega) (by kernel_rfl)) ?_) <;> conv => whnf))
  ·rename_i h1
   have hkl : k < l.length := by simp at h1; omega
   have e : l[k] = l.getD i 0 := by rw [hgi]; exact h
   exact aback (k + 1) [] [] rfl (by show l.length - (k + 1) < l.length - k; omega) (hr.next hkl e) trivial ⟨rfl, trivial⟩
  all_goals
   have ⟨hik, hd⟩ := done (by first | (intro hkl e; rw [hgi] at e; exact absurd e h) | (intro hkl; simp at h; omega))
   have h10 := (num_len l[i]).2
   have h20 := congrArg List.length hd
   simp only [List.length_append] at h20
   (refine acallF [] (by kernel_rfl) (put2A out l[i] (hl _ (List.getElem_mem hlt)) (by omega)) ?_ ?_; (focus (repeat' (first | rfl | trivial | apply And.intro))))
   rintro _ _ _ ⟨rfl, rfl, rfl⟩
   conv => whnf
   (repeat' ((first | refine And.intro ?_ ?_ | (apply vif_split <;> intro h <;> try simp only [bl] at h) | refine AAr.i64 (by first | omega | ((try simp only [List.length_map] at *); omega)) ?_ | refine AIn.mk' _ rfl (by first | omega | (simp only [ln]; omega) | (simp only [ln] at *; omega)) ?_ | refine ARd.mapAt (by assumption) ?_ | refine ARd.set (by (try simp only [ln] at *); omega) ?_ | refine ARd.map (by first | omega | (simp only [List.length_map] at *; omega)) ?_ | refine VReq.mk (by first | decide | omega) ?_ | refine AEq.mk (by kernel_rfl) rfl rfl ?_ | refine VReq.mk (app_ok (by (try simp only [ln] at *); omega) (by kernel_rfl)) ?_) <;> conv => whnf))
   have hp : AFn Tryz.prog GC 24 [bs (out ++ num l[i]), iv ((k : Int) - (i : Int))] 0 [] (Own1 5 1 ((out ++ num l[i] ++ num ((k - i : Nat) : Int)).map enB)) := by
    rw [← show ((k - i : Nat) : Int) = (k : Int) - (i : Int) by omega]
    exact put2A (out ++ num l[i]) ((k - i : Nat) : Int) (i64_nat (by omega)) (by rw [List.length_append]; omega)
   (refine acallF [2] (by kernel_rfl) (hp) ?_ ?_; (focus (repeat' (first | rfl | trivial | apply And.intro))))
   rintro _ _ _ ⟨rfl, rfl, rfl⟩
   conv => whnf
   (repeat' ((first | refine And.intro ?_ ?_ | (apply vif_split <;> intro h <;> try simp only [bl] at h) | refine AAr.i64 (by first | omega | ((try simp only [List.length_map] at *); omega)) ?_ | refine AIn.mk' _ rfl (by first | omega | (simp only [ln]; omega) | (simp only [ln] at *; omega)) ?_ | refine ARd.mapAt (by assumption) ?_ | refine ARd.set (by (try simp only [ln] at *); omega) ?_ | refine ARd.map (by first | omega | (simp only [List.length_map] at *; omega)) ?_ | refine VReq.mk (by first | decide | omega) ?_ | refine AEq.mk (by kernel_rfl) rfl rfl ?_ | refine VReq.mk (app_ok (by (try simp only [ln] at *); omega) (by kernel_rfl)) ?_) <;> conv => whnf))
   exact aback ⟨k, 0, out ++ num l[i] ++ num ((k - i : Nat) : Int)⟩ [] [3] rfl (by show l.length - k < l.length - i; omega) ⟨hk, hd⟩ trivial ⟨⟨rfl, rfl, rfl⟩, rfl, trivial⟩
 ·have : i = l.length := by simp at h; omega
  subst this
  simp only [List.drop_length, b2, rl, List.flatMap_nil, List.append_nil] at ho
  rw [ho]
  exact aret [] (by repeat' (first | rfl | trivial | apply And.intro))
theorem sub_u (x s : Int) : IntKind.i64.wrap (IntKind.u64.wrap (IntKind.u64.wrap x - IntKind.u64.wrap s)) = w64 (x - s) := by
 have e : IntKind.u64.bits = 64 := rfl
 have e1 : IntKind.u64.signed = false := rfl
 have := w64_of (IntKind.u64.wrap (IntKind.u64.wrap x - IntKind.u64.wrap s))
 unfold w64 at this
 rw [this, w64_of]
 simp only [IntKind.wrap, e, e1, Bool.false_and, Bool.false_eq_true, if_false]
 omega
theorem enc3A (l : Li) (hl : AllI l) (hne : l ≠ []) (hs : l.length ≤ 512) : AFn Tryz.prog GC 91 [iv 3, li l] 0 [] (Is (bs (en 3 l))) := by
 rw [← en3]
 have h0 : 0 < l.length := List.length_pos_iff.2 hne
 have hh := hd_len 3 l
 have hbl := st_len l 0
 have hfirst : b3 l = num l[0] ++ st l[0] (l.drop 1) := by
  have e : l = l[0] :: l.drop 1 := by have := drop_cons h0; simpa using this
  have e2 : b3 (l[0] :: l.drop 1) = num (w64 (l[0] - 0)) ++ st l[0] (l.drop 1) := rfl
  rw [Int.sub_zero, w64_id (hl _ (List.getElem_mem h0))] at e2
  rw [← e] at e2
  exact e2
 refine afn_of Tryz.func91 rfl mixed (by kernel_rfl) ?_
 conv => whnf
 (refine acallF [] (by kernel_rfl) (put2A [] 3 (by unfold I64; omega) (by simp)) ?_ ?_; (focus (repeat' (first | rfl | trivial | apply And.intro))))
 rintro _ _ _ ⟨rfl, rfl, rfl⟩
 conv => whnf
 (refine acallF [0] (by kernel_rfl) (hlen2A l hs 3) ?_ ?_; (focus (repeat' (first | rfl | trivial | apply And.intro))))
 rintro _ _ _ ⟨rfl, rfl, rfl⟩
 conv => whnf
 generalize num 3 ++ num (l.length : Int) = b at *
 (repeat' ((first | refine And.intro ?_ ?_ | (apply vif_split <;> intro h <;> try simp only [bl] at h) | refine AAr.i64 (by first | omega | ((try simp only [List.length_map] at *); omega)) ?_ | refine AIn.mk' _ rfl (by first | omega | (simp only [ln]; omega) | (simp only [ln] at *; omega)) ?_ | refine ARd.mapAt (by assumption) ?_ | refine ARd.set (by (try simp only [ln] at *); omega) ?_ | refine ARd.map (by first | omega | (simp only [List.length_map] at *; omega)) ?_ | refine VReq.mk (by first | decide | omega) ?_ | refine AEq.mk (by kernel_rfl) rfl rfl ?_ | refine VReq.mk (app_ok (by (try simp only [ln] at *); omega) (by kernel_rfl)) ?_) <;> conv => whnf))
 (refine acallF [1] (by kernel_rfl) (put2A b l[0] (hl _ (List.getElem_mem h0)) (by omega)) ?_ ?_; (focus (repeat' (first | rfl | trivial | apply And.intro))))
 rintro _ _ _ ⟨rfl, rfl, rfl⟩
 conv => whnf
 refine aloop ws91_4 3 [5, 9] (fun x : LX => [(5, bs x.out), (9, iv x.k)]) (fun _ => []) (fun x => 1 ≤ x.k ∧ x.k ≤ l.length ∧ x.out ++ st (l.getD (x.k - 1) 0) (l.drop x.k) = b ++ b3 l) (fun x => l.length - x.k) [] [2] ⟨1, 0, b ++ num l[0]⟩ (by kernel_rfl) (fun _ => rfl) rfl ⟨Nat.le_refl _, h0, by rw [hfirst, List.append_assoc]; simp [List.getElem?_eq_getElem h0]⟩ trivial ⟨⟨rfl, rfl, rfl⟩, rfl, trivial⟩ ?_
 rintro ⟨k, p, out⟩ ⟨hk1, hk, ho⟩
 change 1 ≤ k at hk1
 change k ≤ l.length at hk
 change out ++ st (l.getD (k - 1) 0) (l.drop k) = b ++ b3 l at ho
 have hol : out.length ≤ b.length + 10 * l.length := by have := congrArg List.length ho; simp only [List.length_append, b3] at this; omega
 conv => whnf
 refine vif_split (fun hlt => ?_) (fun hge => ?_)
 ·have hlt : k < l.length := by simp at hlt; omega
  have hkm : k - 1 < l.length := by omega
  have hgd : l.getD (k - 1) 0 = l[k - 1] := by rw [List.getD_eq_getElem?_getD, List.getElem?_eq_getElem hkm]; rfl
  rw [drop_cons hlt, hgd] at ho
  simp only [st] at ho
  conv => whnf
  (refine adraw pln91 [] (by kernel_rfl) ?_; conv => whnf)
  repeat' (first
   | (refine AIn.mk' k rfl (by rw [List.length_map]; exact hlt) ?_; conv => whnf)
   | (refine AIn.mk' (k - 1) (by show (k : Int) - 1 = _; omega) (by rw [List.length_map]; exact hkm) ?_; conv => whnf)
   | (refine ARd.map hlt ?_; conv => whnf)
   | (refine ARd.map hkm ?_; conv => whnf)
   | (refine AAr.i64 (x := (k : Int) - 1) (by omega) ?_; conv => whnf)
   | (refine AAr.to (sub_u _ _) ?_; conv => whnf)
   | (refine AAr.to rfl ?_; conv => whnf))
  (refine acallF [] (by kernel_rfl) (put2A out (w64 (l[k] - l[k - 1])) (w64_i _) (by omega)) ?_ ?_; (focus (repeat' (first | rfl | trivial | apply And.intro))))
  rintro _ _ _ ⟨rfl, rfl, rfl⟩
  conv => whnf
  (repeat' ((first | refine And.intro ?_ ?_ | (apply vif_split <;> intro h <;> try simp only [bl] at h) | refine AAr.i64 (by first | omega | ((try simp only [List.length_map] at *); omega)) ?_ | refine AIn.mk' _ rfl (by first | omega | (simp only [ln]; omega) | (simp only [ln] at *; omega)) ?_ | refine ARd.mapAt (by assumption) ?_ | refine ARd.set (by (try simp only [ln] at *); omega) ?_ | refine ARd.map (by first | omega | (simp only [List.length_map] at *; omega)) ?_ | refine VReq.mk (by first | decide | omega) ?_ | refine AEq.mk (by kernel_rfl) rfl rfl ?_ | refine VReq.mk (app_ok (by (try simp only [ln] at *); omega) (by kernel_rfl)) ?_) <;> conv => whnf))
  refine aback ⟨k + 1, 0, out ++ num (w64 (l[k] - l[k - 1]))⟩ [] [3] rfl (by show l.length - (k + 1) < l.length - k; omega) ⟨by show 1 ≤ k + 1; omega, hlt, ?_⟩ trivial ⟨⟨rfl, rfl, rfl⟩, rfl, trivial⟩
  show (out ++ num (w64 (l[k] - l[k - 1]))) ++ st (l.getD (k + 1 - 1) 0) (l.drop (k + 1)) = _
  rw [Nat.add_sub_cancel, List.getD_eq_getElem?_getD, List.getElem?_eq_getElem hlt, ← ho, List.append_assoc]
  rfl
 ·have : k = l.length := by simp at hge; omega
  subst this
  simp only [List.drop_length, st, List.append_nil] at ho
  conv => whnf
  rw [← ho]
  exact aret [] (by repeat' (first | rfl | trivial | apply And.intro))
theorem enc4A (l : Li) (hl : AllI l) (hs : l.length ≤ 512) : AFn Tryz.prog GC 91 [iv 4, li l] 0 [] (Is (bs (en 4 l))) := by
 rw [← en4]
 have hh := hd_len 4 l
 have hdl := ds_len l
 have hda : AllI (ds l) := fun x hx => hl x ((ds_mem l x).1 hx)
 have n1 := (num_len ((ds l).length : Int)).2
 have hix : ∀ k, (ixs (ds l) (l.take k)).length ≤ 10 * l.length := fun k => by
  have h1 := fm_len (fun x => num (idx (ds l) x)) 10 (l.take k) fun x _ => (num_len _).2
  rw [List.length_take] at h1
  have h2 : (ixs (ds l) (l.take k)).length ≤ 10 * min k l.length := h1
  omega
 have e4 : b4 l = num ((ds l).length : Int) ++ (b1 (ds l) ++ ixs (ds l) (l.take l.length)) := by
  rw [List.take_length]
  unfold b4 ixs
  simp only [List.append_assoc]
 rw [e4]
 refine afn_of Tryz.func91 rfl mixed (by kernel_rfl) ?_
 conv => whnf
 (refine acallF [] (by kernel_rfl) (put2A [] 4 (by unfold I64; omega) (by simp)) ?_ ?_; (focus (repeat' (first | rfl | trivial | apply And.intro))))
 rintro _ _ _ ⟨rfl, rfl, rfl⟩
 conv => whnf
 (refine acallF [0] (by kernel_rfl) (hlen2A l hs 4) ?_ ?_; (focus (repeat' (first | rfl | trivial | apply And.intro))))
 rintro _ _ _ ⟨rfl, rfl, rfl⟩
 conv => whnf
 generalize num 4 ++ num (l.length : Int) = b at *
 (refine acallF [] (by kernel_rfl) (distinctA l (by omega)) ?_ ?_; (focus (repeat' (first | rfl | trivial | apply And.intro))))
 rintro _ _ _ ⟨rfl, rfl, rfl⟩
 conv => whnf
 generalize hd : ds l = d at *
 have hp : AFn Tryz.prog GC 24 [bs b, iv ((d.map enI).length : Nat)] 0 [] (Own1 5 1 ((b ++ num (d.length : Int)).map enB)) := by
  rw [List.length_map]
  exact put2A b d.length (i64_nat (by omega)) (by omega)
 (refine acallF [1, 2] (by kernel_rfl) (hp) ?_ ?_; (focus (repeat' (first | rfl | trivial | apply And.intro))))
 rintro _ _ _ ⟨rfl, rfl, rfl⟩
 conv => whnf
 refine aloop ws91_5 4 [5, 11] (fun k : Nat => [(5, bs (b ++ num (d.length : Int) ++ b1 (d.take k))), (11, iv k)]) (fun _ => [(2, .fz 1 (d.map enI))]) (fun k => k ≤ d.length) (fun k => d.length - k) [] [3] 0 (by kernel_rfl) (fun _ => rfl) rfl (Nat.zero_le _) ⟨⟨rfl, rfl⟩, trivial⟩ ⟨⟨rfl, rfl, by simp [b1]⟩, rfl, trivial⟩ ?_
 rintro k hk
 have hbl := b1_take_len d k
 conv => whnf
 refine vif_split (fun hlt => ?_) (fun hge => ?_)
 ·have hlt : k < d.length := by simpa using hlt
  conv => whnf
  (repeat' ((first | refine And.intro ?_ ?_ | (apply vif_split <;> intro h <;> try simp only [bl] at h) | refine AAr.i64 (by first | omega | ((try simp only [List.length_map] at *); omega)) ?_ | refine AIn.mk' _ rfl (by first | omega | (simp only [ln]; omega) | (simp only [ln] at *; omega)) ?_ | refine ARd.mapAt (by assumption) ?_ | refine ARd.set (by (try simp only [ln] at *); omega) ?_ | refine ARd.map (by first | omega | (simp only [List.length_map] at *; omega)) ?_ | refine VReq.mk (by first | decide | omega) ?_ | refine AEq.mk (by kernel_rfl) rfl rfl ?_ | refine VReq.mk (app_ok (by (try simp only [ln] at *); omega) (by kernel_rfl)) ?_) <;> conv => whnf))
  (refine acallF [] (by kernel_rfl) (put2A (b ++ num (d.length : Int) ++ b1 (d.take k)) d[k] (hda _ (List.getElem_mem hlt)) (by simp only [List.length_append]; omega)) ?_ ?_; (focus (repeat' (first | rfl | trivial | apply And.intro))))
  rintro _ _ _ ⟨rfl, rfl, rfl⟩
  conv => whnf
  (repeat' ((first | refine And.intro ?_ ?_ | (apply vif_split <;> intro h <;> try simp only [bl] at h) | refine AAr.i64 (by first | omega | ((try simp only [List.length_map] at *); omega)) ?_ | refine AIn.mk' _ rfl (by first | omega | (simp only [ln]; omega) | (simp only [ln] at *; omega)) ?_ | refine ARd.mapAt (by assumption) ?_ | refine ARd.set (by (try simp only [ln] at *); omega) ?_ | refine ARd.map (by first | omega | (simp only [List.length_map] at *; omega)) ?_ | refine VReq.mk (by first | decide | omega) ?_ | refine AEq.mk (by kernel_rfl) rfl rfl ?_ | refine VReq.mk (app_ok (by (try simp only [ln] at *); omega) (by kernel_rfl)) ?_) <;> conv => whnf))
  refine aback (k + 1) [] [4] rfl (by show d.length - (k + 1) < d.length - k; omega) hlt ⟨⟨rfl, rfl⟩, trivial⟩ ⟨⟨rfl, rfl, by rw [b1_take hlt, List.append_assoc]⟩, rfl, trivial⟩
 have : k = d.length := by simp at hge; omega
 subst this
 rw [List.take_length] at hbl ⊢
 conv => whnf
 refine aloop ws91_6 4 [5, 12] (fun k : Nat => [(5, bs (b ++ num (d.length : Int) ++ b1 d ++ ixs d (l.take k))), (12, iv k)]) (fun _ => [(2, .fz 1 (d.map enI))]) (fun k => k ≤ l.length) (fun k => l.length - k) [] [] 0 (by kernel_rfl) (fun _ => rfl) rfl (Nat.zero_le _) ⟨⟨rfl, rfl⟩, trivial⟩ ⟨⟨rfl, by simp [ixs]⟩, rfl, trivial⟩ ?_
 rintro k hk
 have hx := hix k
 conv => whnf
 apply vif_split <;> intro h
 ·have hlt : k < l.length := by simp at h; omega
  have hmem : l[k] ∈ d := by rw [← hd]; exact (ds_mem l _).2 (List.getElem_mem hlt)
  have hil := (idx_lt hmem).1
  conv => whnf
  (repeat' ((first | refine And.intro ?_ ?_ | (apply vif_split <;> intro h <;> try simp only [bl] at h) | refine AAr.i64 (by first | omega | ((try simp only [List.length_map] at *); omega)) ?_ | refine AIn.mk' _ rfl (by first | omega | (simp only [ln]; omega) | (simp only [ln] at *; omega)) ?_ | refine ARd.mapAt (by assumption) ?_ | refine ARd.set (by (try simp only [ln] at *); omega) ?_ | refine ARd.map (by first | omega | (simp only [List.length_map] at *; omega)) ?_ | refine VReq.mk (by first | decide | omega) ?_ | refine AEq.mk (by kernel_rfl) rfl rfl ?_ | refine VReq.mk (app_ok (by (try simp only [ln] at *); omega) (by kernel_rfl)) ?_) <;> conv => whnf))
  (refine acall [] (by kernel_rfl) (indexA d l[k] hmem (by omega)) rfl ?_ ?_; (focus (repeat' (first | rfl | trivial | apply And.intro))))
  conv => whnf
  (refine acallF [] (by kernel_rfl) (put2A (b ++ num (d.length : Int) ++ b1 d ++ ixs d (l.take k)) (idx d l[k] : Int) (i64_nat (by omega)) (by simp only [List.length_append]; omega)) ?_ ?_; (focus (repeat' (first | rfl | trivial | apply And.intro))))
  rintro _ _ _ ⟨rfl, rfl, rfl⟩
  conv => whnf
  (repeat' ((first | refine And.intro ?_ ?_ | (apply vif_split <;> intro h <;> try simp only [bl] at h) | refine AAr.i64 (by first | omega | ((try simp only [List.length_map] at *); omega)) ?_ | refine AIn.mk' _ rfl (by first | omega | (simp only [ln]; omega) | (simp only [ln] at *; omega)) ?_ | refine ARd.mapAt (by assumption) ?_ | refine ARd.set (by (try simp only [ln] at *); omega) ?_ | refine ARd.map (by first | omega | (simp only [List.length_map] at *; omega)) ?_ | refine VReq.mk (by first | decide | omega) ?_ | refine AEq.mk (by kernel_rfl) rfl rfl ?_ | refine VReq.mk (app_ok (by (try simp only [ln] at *); omega) (by kernel_rfl)) ?_) <;> conv => whnf))
  refine aback (k + 1) [] [4] rfl (by show l.length - (k + 1) < l.length - k; omega) hlt ⟨⟨rfl, rfl⟩, trivial⟩ ⟨⟨rfl, rfl, ?_⟩, rfl, trivial⟩
  rw [ixs_take hlt, ← List.append_assoc]
 ·have : k = l.length := by simp at h; omega
  subst this
  conv => whnf
  simp only [← List.append_assoc, List.take_length]
  exact aret [] (by repeat' (first | rfl | trivial | apply And.intro))
theorem ds_ends {l : Li} (hne : l ≠ []) : 0 < (ds l).length ∧ (ds l)[0]? = some (lo l) ∧ (ds l)[(ds l).length - 1]? = some (hi l) := by
 have h := List.length_pos_iff.2 (ds_ne hne)
 unfold lo hi
 generalize ds l = d at *
 refine ⟨h, ?_, ?_⟩
 ·cases d with
  | nil => simp at h
  | cons y r => rfl
 ·rw [← List.getLast?_eq_getElem?, List.getLastD_eq_getLast?]
  cases hd : d.getLast? with
  | none => rw [List.getLast?_eq_none_iff.1 hd] at h; simp at h
  | some y => rfl
theorem enc5A (l : Li) (hl : AllI l) (hne : l ≠ []) (hs : l.length ≤ 512) : AFn Tryz.prog GC 91 [iv 5, li l] 0 [] (Is (bs (en 5 l))) := by
 rw [← en5]
 have hh := hd_len 5 l
 have hdl := ds_len l
 obtain ⟨hd0, hdlo, hdhi⟩ := ds_ends hne
 have hlast : ((ds l).length : Int) - 1 = (((ds l).length - 1 : Nat) : Int) := by omega
 obtain ⟨a, ha⟩ := List.exists_mem_of_ne_nil l hne
 have h1 := lo_le ha
 have h2 := hi_ge ha
 have hlo := hl _ h1.2
 have hhi := hl _ h2.2
 have hdf := u64_dif hlo hhi (by omega)
 have hw := wd_le l hl
 have hlen := widthA (dif (lo l) (hi l)) hdf.2
 have hwd : wid 64 (dif (lo l) (hi l)) = wd l := rfl
 rw [hwd] at hlen
 have n1 := (num_len (lo l)).2
 have e5 : b5 l = num (lo l) ++ num (wd l : Int) ++ pk (bitA (lo l) (wd l) l) (sz5 l.length (wd l)) (l.length * wd l) := rfl
 have hbitl : ∀ i k (hlt : i < l.length), k < wd l → bitA (lo l) (wd l) l (i * wd l + k) = (dif (lo l) l[i]).testBit k := fun i k hlt hk => bitA_at hk hlt
 have hxlo : ∀ i (hlt : i < l.length), lo l ≤ l[i] := fun i hlt => (lo_le (List.getElem_mem hlt)).1
 rw [e5]
 clear hwd e5
 refine afn_of Tryz.func91 rfl mixed (by kernel_rfl) ?_
 conv => whnf
 (refine acallF [] (by kernel_rfl) (put2A [] 5 (by unfold I64; omega) (by simp)) ?_ ?_; (focus (repeat' (first | rfl | trivial | apply And.intro))))
 rintro _ _ _ ⟨rfl, rfl, rfl⟩
 conv => whnf
 (refine acallF [0] (by kernel_rfl) (hlen2A l hs 5) ?_ ?_; (focus (repeat' (first | rfl | trivial | apply And.intro))))
 rintro _ _ _ ⟨rfl, rfl, rfl⟩
 conv => whnf
 generalize num 5 ++ num (l.length : Int) = b at *
 (refine acallF [] (by kernel_rfl) (distinctA l (by omega)) ?_ ?_; (focus (repeat' (first | rfl | trivial | apply And.intro))))
 rintro _ _ _ ⟨rfl, rfl, rfl⟩
 conv => whnf
 generalize hwe : wd l = w at *
 generalize hm : lo l = m at *
 generalize hM : hi l = M at *
 generalize hd : ds l = d at *
 (refine adraw pln91 [] (by kernel_rfl) ?_; conv => whnf)
 refine AAr.to (y := ((d.length - 1 : Nat) : Int)) (by rw [List.length_map, IntWalk.i64_in _ (by omega)]; omega) ?_
 conv => whnf
 refine AIn.mk' (d.length - 1) rfl (by rw [List.length_map]; omega) ?_
 conv => whnf
 refine ARd.mapAt hdhi ?_
 conv => whnf
 refine AAr.to rfl ?_
 conv => whnf
 refine AIn.mk' 0 rfl (by rw [List.length_map]; omega) ?_
 conv => whnf
 refine ARd.mapAt hdlo ?_
 conv => whnf
 refine AAr.to rfl ?_
 conv => whnf
 refine AAr.to hdf.1 ?_
 conv => whnf
 (refine acall [2] (by kernel_rfl) (hlen) rfl ?_ ?_; (focus (repeat' (first | rfl | trivial | apply And.intro))))
 conv => whnf
 refine AIn.mk' 0 rfl (by rw [List.length_map]; omega) ?_
 conv => whnf
 refine ARd.mapAt hdlo ?_
 conv => whnf
 (refine acallF [1] (by kernel_rfl) (put2A b m hlo (by omega)) ?_ ?_; (focus (repeat' (first | rfl | trivial | apply And.intro))))
 rintro _ _ _ ⟨rfl, rfl, rfl⟩
 conv => whnf
 (refine acallF [3, 2] (by kernel_rfl) (put2A (b ++ num m) (w : Int) (i64_nat (by omega)) (by rw [List.length_append]; omega)) ?_ ?_; (focus (repeat' (first | rfl | trivial | apply And.intro))))
 rintro _ _ _ ⟨rfl, rfl, rfl⟩
 conv => whnf
 have hlw : l.length * w ≤ 640000 := by
  have := Nat.mul_le_mul hs hw; omega
 refine AAr.to (y := ((l.length * w : Nat) : Int)) (by rw [List.length_map, ← Int.natCast_mul]; exact IntWalk.i64_in _ (by omega)) ?_
 conv => whnf
 refine AAr.i64 (by omega) ?_
 conv => whnf
 refine VReq.mk (by decide) ?_
 conv => whnf
 refine AAr.to (y := ((sz5 l.length w : Nat) : Int)) (by
  have e : Int.tdiv (((l.length * w : Nat) : Int) + 7) 8 = ((sz5 l.length w : Nat) : Int) := rfl
  rw [e]; exact IntWalk.i64_in _ (by unfold sz5; omega)) ?_
 conv => whnf
 refine AMk.mk' (by_ := 1) (sz5 l.length w) rfl rfl (by unfold sz5 maxLen; omega) ?_
 conv => whnf
 have hb3 : (b ++ num m ++ num (w : Int)).length ≤ 100 := by have := (num_len (w : Int)).2; simp only [List.length_append]; omega
 refine aloop ws91_7 6 [16] (fun i : Nat => [(16, iv i)]) (fun i => [(5, .rows 5 1 ((pk (bitA m w l) (sz5 l.length w) (i * w)).map enB)), (4, .rows 5 1 ((b ++ num m ++ num (w : Int)).map enB)), (2, .fz 1 (d.map enI))]) (fun i => i ≤ l.length) (fun i => l.length - i) [] [] 0 (by kernel_rfl) (fun _ => rfl) rfl (Nat.zero_le _) ⟨⟨rfl, rfl, by rw [Nat.zero_mul, pk_zero, List.map_replicate]; rfl⟩, ⟨rfl, rfl, rfl⟩, ⟨rfl, rfl⟩, trivial⟩ ⟨rfl, trivial⟩ ?_
 rintro i hi
 conv => whnf
 apply vif_split <;> intro h
 ·have hlt : i < l.length := by simp at h; omega
  have hxd := u64_dif hlo (hl _ (List.getElem_mem hlt)) (hxlo i hlt)
  have hbit := fun k => hbitl i k hlt
  conv => whnf
  (refine adraw pln91 [] (by kernel_rfl) ?_; conv => whnf)
  repeat' (first
   | (refine AIn.mk' i rfl (by rw [List.length_map]; exact hlt) ?_; conv => whnf)
   | (refine AIn.mk' 0 rfl (by rw [List.length_map]; omega) ?_; conv => whnf)
   | (refine ARd.mapAt hdlo ?_; conv => whnf)
   | (refine ARd.map hlt ?_; conv => whnf)
   | (refine AAr.to hxd.1 ?_; conv => whnf)
   | (refine AAr.to rfl ?_; conv => whnf))
  generalize dif m l[i] = dd at *
  refine aloop ws91_8 6 [18] (fun k : Nat => [(18, iv k)]) (fun k => [(5, .rows 5 1 ((pk (bitA m w l) (sz5 l.length w) (i * w + k)).map enB)), (4, .rows 5 1 ((b ++ num m ++ num (w : Int)).map enB)), (2, .fz 1 (d.map enI))]) (fun k => k ≤ w) (fun k => w - k) [] [] 0 (by kernel_rfl) (fun _ => rfl) rfl (Nat.zero_le _) ⟨⟨rfl, rfl, rfl⟩, ⟨rfl, rfl, rfl⟩, ⟨rfl, rfl⟩, trivial⟩ ⟨rfl, trivial⟩ ?_
  rintro k hk
  conv => whnf
  apply vif_split <;> intro h
  ·have hkw : k < w := by simp at h; omega
   have hat := at_lt hlt hkw
   have hmul : i * w + k ≤ 640000 := by omega
   conv => whnf
   refine AAr.to (y := ((i * w : Nat) : Int)) (by rw [← Int.natCast_mul]; exact IntWalk.i64_in _ (by omega)) ?_
   conv => whnf
   refine AAr.to (y := ((i * w + k : Nat) : Int)) (by rw [← Int.natCast_add]; exact IntWalk.i64_in _ (by omega)) ?_
   conv => whnf
   generalize hp : i * w + k = p at *
   refine VReq.mk (by decide) ?_
   conv => whnf
   refine AAr.to (y := ((p / 8 : Nat) : Int)) (by
    have e : Int.tdiv (p : Int) 8 = ((p / 8 : Nat) : Int) := rfl
    rw [e]; exact IntWalk.i64_in _ (by omega)) ?_
   conv => whnf
   refine AIn.mk' (p / 8) rfl (by rw [List.length_map, pk_len]; exact hat.2) ?_
   conv => whnf
   refine ARd.mapAt (pk_get hat.2) ?_
   conv => whnf
   refine AAr.to (y := ((k : Nat) : Int)) (wr_u64 (by omega)) ?_
   conv => whnf
   refine VReq.mk (by omega) ?_
   conv => whnf
   refine AAr.to (y := (((if dd.testBit k = true then 1 else 0 : Nat)) : Int)) (by rw [bit_at hxd.2 (by omega)]; exact w8 (by split <;> omega)) ?_
   conv => whnf
   refine VReq.mk (by decide) ?_
   conv => whnf
   refine AAr.to (y := ((p % 8 : Nat) : Int)) (wr_u64 (n := p % 8) (by omega)) ?_
   conv => whnf
   refine VReq.mk (by omega) ?_
   conv => whnf
   refine AAr.to (y := (((if dd.testBit k = true then 1 else 0) * 2 ^ (p % 8) : Nat) : Int)) (shl8 (s := p % 8) (by split <;> omega) (Nat.mod_lt _ (by decide))) ?_
   conv => whnf
   refine AIn.mk' (p / 8) rfl (by rw [List.length_map, pk_len]; exact hat.2) ?_
   conv => whnf
   refine ARd.mapAt (pk_get hat.2) ?_
   conv => whnf
   refine AAr.i64 (by omega) ?_
   conv => whnf
   have hbk : bitA m w l p = dd.testBit k := by rw [← hp]; exact hbit k hkw
   refine aback (k + 1) [] [] rfl (by show w - (k + 1) < w - k; omega) hkw ⟨⟨rfl, rfl, ?_⟩, ⟨rfl, rfl, rfl⟩, ⟨rfl, rfl⟩, trivial⟩ ⟨rfl, trivial⟩
   rw [show i * w + (k + 1) = p + 1 by omega, pk_row, hbk]
  ·have : k = w := by simp at h; omega
   subst this
   conv => whnf
   refine AAr.i64 (by omega) ?_
   conv => whnf
   refine aback (i + 1) [] [] rfl (by show l.length - (i + 1) < l.length - i; omega) hlt ⟨⟨rfl, rfl, ?_⟩, ⟨rfl, rfl, rfl⟩, ⟨rfl, rfl⟩, trivial⟩ ⟨rfl, trivial⟩
   rw [show (i + 1) * k = i * k + k by rw [Nat.add_mul, Nat.one_mul]]
 ·have : i = l.length := by simp at h; omega
  subst this
  have hS : sz5 l.length w ≤ 100000 := by unfold sz5; omega
  conv => whnf
  refine VReq.mk (app_ok (by simp only [List.length_map, List.length_append, pk_len] at *; omega) (by kernel_rfl)) ?_
  conv => whnf
  simp only [← List.append_assoc]
  refine aret [6] ⟨rfl, rfl, ?_⟩
  simp only [List.map_append]
section
attribute [local irreducible] best ints en bd
theorem ints2A (l : Li) (hl : AllI l) (hs : l.length ≤ 512) : AFn Tryz.prog GC 54 [li l] 0 [] (Is (bs (ints l))) := by
 refine afn_of Tryz.func54 rfl mixed (by kernel_rfl) ?_
 conv => whnf
 apply vif_split <;> intro h
 ·have e : l = [] := List.eq_nil_of_length_eq_zero (by simp at h; simp [h])
  subst e
  conv => whnf
  rw [ex2]
  exact aret [0] (by repeat' (first | rfl | trivial | apply And.intro))
 have hne : l ≠ [] := fun e => by subst e; simp at h
 conv => whnf
 (refine acallF [] (by kernel_rfl) (enc1A l hl hs) ?_ ?_; (focus (repeat' (first | rfl | trivial | apply And.intro))))
 rintro _ _ _ ⟨rfl, rfl, rfl⟩
 conv => whnf
 refine aloop ws54_1 0 [3, 4] (fun k : Nat => [(3, bs (best l (k - 2))), (4, iv k)]) (fun _ => []) (fun k => 2 ≤ k ∧ k ≤ 6) (fun k => 6 - k) [] [] 2 (by kernel_rfl) (fun _ => rfl) rfl ⟨Nat.le_refl _, by decide⟩ trivial ⟨⟨rfl, by rw [best_zero]⟩, rfl, trivial⟩ ?_
 rintro k ⟨hk1, hk2⟩
 have hc : k = 2 ∨ k = 3 ∨ k = 4 ∨ k = 5 ∨ k = 6 := by omega
 rcases hc with rfl | rfl | rfl | rfl | rfl
 ·conv => whnf
  (refine acallF [] (by kernel_rfl) (enc2A l hl hs) ?_ ?_; (focus (repeat' (first | rfl | trivial | apply And.intro))))
  rintro _ _ _ ⟨rfl, rfl, rfl⟩
  conv => whnf
  apply vif_split <;> intro h
  ·conv => whnf
   refine AAr.i64 (by decide) ?_
   conv => whnf
   refine aback (0 + 3) [] [] rfl (by decide) ⟨by decide, by decide⟩ trivial ⟨⟨rfl, ?_⟩, rfl, trivial⟩
   show _ = (best l (0 + 1)).map enB
   rw [best_lt 0 (by simp only [List.length_map, decide_eq_true_eq, decide_eq_false_iff_not] at h; have h3 : ((en (0 + 2) l).length : Int) < ((best l 0).length : Int) := h; omega)]
  ·conv => whnf
   refine AAr.i64 (by decide) ?_
   conv => whnf
   refine aback (0 + 3) [] [] rfl (by decide) ⟨by decide, by decide⟩ trivial ⟨⟨rfl, ?_⟩, rfl, trivial⟩
   show _ = (best l (0 + 1)).map enB
   rw [best_ge 0 (by simp only [List.length_map, decide_eq_true_eq, decide_eq_false_iff_not] at h; have h3 : ¬ ((en (0 + 2) l).length : Int) < ((best l 0).length : Int) := h; omega)]
 ·conv => whnf
  (refine acallF [] (by kernel_rfl) (enc3A l hl hne hs) ?_ ?_; (focus (repeat' (first | rfl | trivial | apply And.intro))))
  rintro _ _ _ ⟨rfl, rfl, rfl⟩
  conv => whnf
  apply vif_split <;> intro h
  ·conv => whnf
   refine AAr.i64 (by decide) ?_
   conv => whnf
   refine aback (1 + 3) [] [] rfl (by decide) ⟨by decide, by decide⟩ trivial ⟨⟨rfl, ?_⟩, rfl, trivial⟩
   show _ = (best l (1 + 1)).map enB
   rw [best_lt 1 (by simp only [List.length_map, decide_eq_true_eq, decide_eq_false_iff_not] at h; have h3 : ((en (1 + 2) l).length : Int) < ((best l 1).length : Int) := h; omega)]
  ·conv => whnf
   refine AAr.i64 (by decide) ?_
   conv => whnf
   refine aback (1 + 3) [] [] rfl (by decide) ⟨by decide, by decide⟩ trivial ⟨⟨rfl, ?_⟩, rfl, trivial⟩
   show _ = (best l (1 + 1)).map enB
   rw [best_ge 1 (by simp only [List.length_map, decide_eq_true_eq, decide_eq_false_iff_not] at h; have h3 : ¬ ((en (1 + 2) l).length : Int) < ((best l 1).length : Int) := h; omega)]
 ·conv => whnf
  (refine acallF [] (by kernel_rfl) (enc4A l hl hs) ?_ ?_; (focus (repeat' (first | rfl | trivial | apply And.intro))))
  rintro _ _ _ ⟨rfl, rfl, rfl⟩
  conv => whnf
  apply vif_split <;> intro h
  ·conv => whnf
   refine AAr.i64 (by decide) ?_
   conv => whnf
   refine aback (2 + 3) [] [] rfl (by decide) ⟨by decide, by decide⟩ trivial ⟨⟨rfl, ?_⟩, rfl, trivial⟩
   show _ = (best l (2 + 1)).map enB
   rw [best_lt 2 (by simp only [List.length_map, decide_eq_true_eq, decide_eq_false_iff_not] at h; have h3 : ((en (2 + 2) l).length : Int) < ((best l 2).length : Int) := h; omega)]
  ·conv => whnf
   refine AAr.i64 (by decide) ?_
   conv => whnf
   refine aback (2 + 3) [] [] rfl (by decide) ⟨by decide, by decide⟩ trivial ⟨⟨rfl, ?_⟩, rfl, trivial⟩
   show _ = (best l (2 + 1)).map enB
   rw [best_ge 2 (by simp only [List.length_map, decide_eq_true_eq, decide_eq_false_iff_not] at h; have h3 : ¬ ((en (2 + 2) l).length : Int) < ((best l 2).length : Int) := h; omega)]
 ·conv => whnf
  (refine acallF [] (by kernel_rfl) (enc5A l hl hne hs) ?_ ?_; (focus (repeat' (first | rfl | trivial | apply And.intro))))
  rintro _ _ _ ⟨rfl, rfl, rfl⟩
  conv => whnf
  apply vif_split <;> intro h
  ·conv => whnf
   refine AAr.i64 (by decide) ?_
   conv => whnf
   refine aback (3 + 3) [] [] rfl (by decide) ⟨by decide, by decide⟩ trivial ⟨⟨rfl, ?_⟩, rfl, trivial⟩
   show _ = (best l (3 + 1)).map enB
   rw [best_lt 3 (by simp only [List.length_map, decide_eq_true_eq, decide_eq_false_iff_not] at h; have h3 : ((en (3 + 2) l).length : Int) < ((best l 3).length : Int) := h; omega)]
  ·conv => whnf
   refine AAr.i64 (by decide) ?_
   conv => whnf
   refine aback (3 + 3) [] [] rfl (by decide) ⟨by decide, by decide⟩ trivial ⟨⟨rfl, ?_⟩, rfl, trivial⟩
   show _ = (best l (3 + 1)).map enB
   rw [best_ge 3 (by simp only [List.length_map, decide_eq_true_eq, decide_eq_false_iff_not] at h; have h3 : ¬ ((en (3 + 2) l).length : Int) < ((best l 3).length : Int) := h; omega)]
 ·conv => whnf
  rw [ints_eq hne]
  exact aret [] (by repeat' (first | rfl | trivial | apply And.intro))
end
section
attribute [local irreducible] best ints en bd
theorem insT_rows (d : Tx) (x : By) (k : Nat) : [] ++ ((d.map enT).drop 0).take (k - 0) ++ [[FV.v (Value.string ⟨x.toArray⟩)]] ++ ((d.map enT).drop k).take (d.length - k) = (d.take k ++ [x] ++ d.drop k).map enT := by
 rw [List.nil_append, List.drop_zero, Nat.sub_zero, List.take_of_length_le (by simp : ((d.map enT).drop k).length ≤ d.length - k), List.map_append, List.map_append, List.map_take, List.map_drop]
 rfl
theorem texts2O (l : Tx) (hs : l.length ≤ 512) (ht : TOK l) : AFn Tryz.prog GC 53 [tl l] 0 [] (Own1 5 1 ((txs l).map enB)) := by
 have hdl := dsT_len l
 have hkl := fun k => keys_len ((dsT l).take k) (ht.ds.take k)
 have n1 := (num_len ((dsT l).length : Int)).2
 refine afn_of Tryz.func53 rfl mixed (by kernel_rfl) ?_
 conv => whnf
 refine aloop ws53_1 1 [3, 4] (fun i : Nat => [(3, .own 0), (4, iv i)]) (fun i => [(0, .rows 9 1 ((dsT (l.take i)).map enT))]) (fun i => i ≤ l.length) (fun i => l.length - i) [(0, .nil)] [] 0 (by kernel_rfl) (fun _ => rfl) rfl (Nat.zero_le _) ⟨rfl, trivial⟩ ⟨trivial, rfl, trivial⟩ ?_
 rintro i hi
 conv => whnf
 apply vif_split <;> intro h
 rotate_left 1
 ·have : i = l.length := by simp at h; omega
  subst this
  rw [List.take_length]
  conv => whnf
  have hput : AFn Tryz.prog GC 24 [bs [], iv (((dsT l).map enT).length : Nat)] 0 [] (Own1 5 1 ((num ((dsT l).length : Int)).map enB)) := by
   rw [List.length_map]
   exact put2A [] ((dsT l).length : Int) (i64_nat (by omega)) (by simp)
  (refine acallF [0] (by kernel_rfl) (hput) ?_ ?_; (focus (repeat' (first | rfl | trivial | apply And.intro))))
  rintro _ _ _ ⟨rfl, rfl, rfl⟩
  conv => whnf
  refine aloop ws53_3 3 [6, 8] (fun k : Nat => [(6, .own 2), (8, iv k)]) (fun k => [(0, .fz 1 ((dsT l).map enT)), (2, .rows 5 1 ((num ((dsT l).length : Int) ++ ((dsT l).take k).flatMap putT).map enB))]) (fun k => k ≤ (dsT l).length) (fun k => (dsT l).length - k) [(2, .lab 1)] [] 0 (by kernel_rfl) (fun _ => rfl) rfl (Nat.zero_le _) ⟨⟨rfl, rfl⟩, ⟨rfl, rfl, by simp⟩, trivial⟩ ⟨rfl, rfl, trivial⟩ ?_
  rintro k hk
  have hkk := hkl k
  rw [List.length_take] at hkk
  conv => whnf
  apply vif_split <;> intro h
  ·have hlt : k < (dsT l).length := by simp at h; omega
   have hmem : (dsT l)[k] ∈ dsT l := List.getElem_mem hlt
   conv => whnf
   refine AIn.mk' k rfl (by rw [List.length_map]; exact hlt) ?_
   conv => whnf
   refine ARd.map hlt ?_
   conv => whnf
   refine acallF [2] (by kernel_rfl) (putT2A (num ((dsT l).length : Int) ++ ((dsT l).take k).flatMap putT) (dsT l)[k] (by rw [List.length_append]; omega) (ht.ds _ hmem)) ⟨⟨rfl, rfl, rfl⟩, rfl, trivial⟩ ?_
   rintro _ _ _ ⟨rfl, rfl, rfl⟩
   conv => whnf
   refine AAr.i64 (by omega) ?_
   conv => whnf
   refine aback (k + 1) [(2, .lab 3)] [] rfl (by show (dsT l).length - (k + 1) < (dsT l).length - k; omega) hlt ⟨⟨rfl, rfl⟩, ⟨rfl, rfl, ?_⟩, trivial⟩ ⟨rfl, rfl, trivial⟩
   rw [keys_take hlt, ← List.append_assoc]
  ·have : k = (dsT l).length := by simp at h; omega
   subst this
   rw [List.take_length]
   conv => whnf
   refine aloop ws53_4 4 [7, 9] (fun k : Nat => [(7, .own 3), (9, iv k)]) (fun k => [(0, .fz 1 ((dsT l).map enT)), (2, .rows 5 1 ((num ((dsT l).length : Int) ++ (dsT l).flatMap putT).map enB)), (3, .rows 3 1 ((ixT (dsT l) (l.take k)).map enI))]) (fun k => k ≤ l.length) (fun k => l.length - k) [(3, .nil)] [] 0 (by kernel_rfl) (fun _ => rfl) rfl (Nat.zero_le _) ⟨⟨rfl, rfl⟩, ⟨rfl, rfl, rfl⟩, rfl, trivial⟩ ⟨trivial, rfl, trivial⟩ ?_
   rintro i hi
   conv => whnf
   apply vif_split <;> intro h
   ·have hlt : i < l.length := by simp at h; omega
    have hmem : l[i] ∈ dsT l := (dsT_mem l _).2 (List.getElem_mem hlt)
    have hil := idxT_lt hmem
    conv => whnf
    refine aloopH ws53_5 [10] (fun k : Nat => [(10, iv k)]) (fun k => k ≤ idxT (dsT l) l[i]) (fun k => (dsT l).length - k) 0 (by kernel_rfl) (fun _ => rfl) (by kernel_rfl) (Nat.zero_le _) (by repeat' (first | rfl | trivial | apply And.intro)) (by repeat' (first | rfl | trivial | apply And.intro)) ?_
    rintro k hk
    have hkl : k < (dsT l).length := by omega
    have hixl : (ixT (dsT l) (l.take i)).length = i := by rw [ixT_len, List.length_take]; omega
    conv => whnf
    (refine adraw pln53 [] (by kernel_rfl) ?_; conv => whnf)
    (repeat' ((first | refine And.intro ?_ ?_ | (apply vif_split <;> intro h <;> try simp only [bl] at h) | refine AAr.i64 (by first | omega | ((try simp only [List.length_map] at *); omega)) ?_ | refine AIn.mk' _ rfl (by first | omega | (simp only [ln]; omega) | (simp only [ln] at *; omega)) ?_ | refine ARd.mapAt (by assumption) ?_ | refine ARd.set (by (try simp only [ln] at *); omega) ?_ | refine ARd.map (by first | omega | (simp only [List.length_map] at *; omega)) ?_ | refine VReq.mk (by first | decide | omega) ?_ | refine AEq.mk (by kernel_rfl) rfl rfl ?_ | refine VReq.mk (app_ok (by (try simp only [ln] at *); omega) (by kernel_rfl)) ?_) <;> conv => whnf))
    ·have e : (dsT l)[k] ≠ l[i] := fun e => h (by rw [e])
     have e2 : k ≠ idxT (dsT l) l[i] := fun e2 => by subst e2; exact e (by have := hil.2; rw [List.getElem?_eq_getElem hkl] at this; injection this)
     exact aback (k + 1) [] [] rfl (by show (dsT l).length - (k + 1) < (dsT l).length - k; omega) (by show k + 1 ≤ idxT (dsT l) l[i]; omega) (by repeat' (first | rfl | trivial | apply And.intro)) ⟨rfl, trivial⟩
    ·have e : (dsT l)[k] = l[i] := by_inj h
     have e2 : k = idxT (dsT l) l[i] := by have := idxT_first e; omega
     refine aback (i + 1) [(3, .lab 5)] [] rfl (by show l.length - (i + 1) < l.length - i; omega) hlt ⟨⟨rfl, rfl⟩, ⟨rfl, rfl, rfl⟩, ⟨rfl, rfl, ?_⟩, trivial⟩ ⟨rfl, rfl, trivial⟩
     rw [ixT_take hlt, List.map_append, ← e2]
     rfl
   ·have : i = l.length := by simp at h; omega
    subst this
    rw [List.take_length]
    conv => whnf
    have hkk2 := keys_len (dsT l) ht.ds
    have hib := ints_short (ixT (dsT l) l) (by rw [ixT_len]; exact hs)
    (refine acallF [3] (by kernel_rfl) (ints2A (ixT (dsT l) l) (ixT_all _ _ (fun x hx => (dsT_mem l x).2 hx) (by omega)) (by rw [ixT_len]; exact hs)) ?_ ?_; (focus (repeat' (first | rfl | trivial | apply And.intro))))
    rintro _ _ _ ⟨rfl, rfl, rfl⟩
    conv => whnf
    refine VReq.mk (app_ok (by simp only [List.length_map, List.length_append]; omega) (by kernel_rfl)) ?_
    conv => whnf
    refine aend (.own 0) 1 [(0, .rows 5 1 ((txs l).map enB))] [(0, .lab 4)] [] ⟨rfl, rfl, rfl⟩ rfl ⟨⟨rfl, rfl, ?_⟩, trivial⟩ (by repeat' (first | rfl | trivial | apply And.intro))
    unfold txs
    simp only [List.map_append]
 have hlt : i < l.length := by simp at h; omega
 have hdi := dsT_len (l.take i)
 rw [List.length_take] at hdi
 have hnext : dsT (l.take (i + 1)) = insT (dsT (l.take i)) l[i] := by rw [List.take_succ_eq_append_getElem hlt, dsT_snoc]
 generalize hd : dsT (l.take i) = d at *
 conv => whnf
 refine aloopH ws53_2 [5] (fun k : Nat => [(5, iv k)]) (fun k => k ≤ d.length ∧ ∀ j (h1 : j < k) (h2 : j < d.length), d[j] < l[i]) (fun k => d.length - k) 0 (by kernel_rfl) (fun _ => rfl) (by kernel_rfl) ⟨Nat.zero_le _, fun j h1 => absurd h1 (Nat.not_lt_zero j)⟩ (by repeat' (first | rfl | trivial | apply And.intro)) (by repeat' (first | rfl | trivial | apply And.intro)) ?_
 rintro k ⟨hk, hno⟩
 conv => whnf
 (refine adraw pln53 [] (by kernel_rfl) ?_; conv => whnf)
 (repeat' ((first | refine And.intro ?_ ?_ | (apply vif_split <;> intro h <;> try simp only [bl] at h) | refine AAr.i64 (by first | omega | ((try simp only [List.length_map] at *); omega)) ?_ | refine AIn.mk' _ rfl (by first | omega | (simp only [ln]; omega) | (simp only [ln] at *; omega)) ?_ | refine ARd.mapAt (by assumption) ?_ | refine ARd.set (by (try simp only [ln] at *); omega) ?_ | refine ARd.map (by first | omega | (simp only [List.length_map] at *; omega)) ?_ | refine VReq.mk (by first | decide | omega) ?_ | refine AEq.mk (by kernel_rfl) rfl rfl ?_ | refine VReq.mk (app_ok (by (try simp only [ln] at *); omega) (by kernel_rfl)) ?_) <;> conv => whnf))
 ·rename_i h1
  have hkl : k < d.length := by simp at h1; omega
  rw [sLt_by] at h
  exact aback (k + 1) [] [] rfl (by show d.length - (k + 1) < d.length - k; omega) ⟨hkl, fun j h2 h3 => by
   rcases Nat.lt_or_ge j k with h4 | h4
   ·exact hno j h4 h3
   ·have : j = k := by omega
    subst this; exact of_decide_eq_true h⟩ (by repeat' (first | rfl | trivial | apply And.intro)) ⟨rfl, trivial⟩
 ·rename_i h1
  have hkl : k < d.length := by simp at h1; omega
  rw [sLt_by] at h
  have hins := insT_split d l[i] k hk hno fun _ => of_decide_eq_false h
  (refine adraw pln53 [] (by kernel_rfl) ?_; conv => whnf)
  (repeat' ((first | refine And.intro ?_ ?_ | (apply vif_split <;> intro h <;> try simp only [bl] at h) | refine AAr.i64 (by first | omega | ((try simp only [List.length_map] at *); omega)) ?_ | refine AIn.mk' _ rfl (by first | omega | (simp only [ln]; omega) | (simp only [ln] at *; omega)) ?_ | refine ARd.mapAt (by assumption) ?_ | refine ARd.set (by (try simp only [ln] at *); omega) ?_ | refine ARd.map (by first | omega | (simp only [List.length_map] at *; omega)) ?_ | refine VReq.mk (by first | decide | omega) ?_ | refine AEq.mk (by kernel_rfl) rfl rfl ?_ | refine VReq.mk (app_ok (by (try simp only [ln] at *); omega) (by kernel_rfl)) ?_) <;> conv => whnf))
  ·exfalso; rename_i h3; simp only [List.length_map] at *; omega
  ·rename_i h3
   rw [if_neg (by rintro ⟨_, h4⟩; exact h (by rw [h4]))] at hins
   ·skip
    (refine adraw pln53 [0, 1, 2, 3, 4, 5] (by kernel_rfl) ?_; conv => whnf)
    repeat' (first
     | (refine And.intro ?_ ?_ <;> (conv => whnf))
     | (refine ABd.mk' 0 k rfl rfl (Nat.zero_le _) (by rw [List.length_map]; omega) ?_; conv => whnf)
     | (refine ABd.mk' k d.length rfl (by rw [List.length_map]) hk (by rw [List.length_map]; exact Nat.le_refl _) ?_; conv => whnf)
     | (refine AIn.mk' i rfl (by rw [List.length_map]; exact hlt) ?_; conv => whnf)
     | (refine ARd.map hlt ?_; conv => whnf)
     | (refine VReq.mk (app_ok (by (try simp only [ln] at *); omega) (by kernel_rfl)) ?_; conv => whnf))
    all_goals
     refine AAr.i64 (x := (i : Int) + 1) (by omega) ?_
     conv => whnf
     refine aback (i + 1) [(0, .lab 5)] [] rfl (by show l.length - (i + 1) < l.length - i; omega) hlt ⟨⟨rfl, rfl, ?_⟩, trivial⟩ ⟨rfl, rfl, trivial⟩
     rw [hnext, hins]
     exact insT_rows d l[i] k
  ·rename_i h3
   rw [if_pos ⟨hkl, by_inj h⟩] at hins
   exact aback (i + 1) [(0, .lab 0)] [] rfl (by show l.length - (i + 1) < l.length - i; omega) hlt ⟨⟨rfl, rfl, by rw [hnext, hins]⟩, trivial⟩ ⟨rfl, rfl, trivial⟩
 ·have hkl : k = d.length := by simp at h; omega
  have hins := insT_split d l[i] k hk hno fun h => by omega
  rw [if_neg (by rintro ⟨h, _⟩; omega)] at hins
  (refine adraw pln53 [] (by kernel_rfl) ?_; conv => whnf)
  refine vif_split (fun h5 => ?_) (fun h5 => ?_)
  rotate_left 1
  ·exfalso; simp at h5; omega
  conv => whnf
  ·skip
   ·skip
    (refine adraw pln53 [0, 1, 2, 3, 4, 5] (by kernel_rfl) ?_; conv => whnf)
    repeat' (first
     | (refine And.intro ?_ ?_ <;> (conv => whnf))
     | (refine ABd.mk' 0 k rfl rfl (Nat.zero_le _) (by rw [List.length_map]; omega) ?_; conv => whnf)
     | (refine ABd.mk' k d.length rfl (by rw [List.length_map]) hk (by rw [List.length_map]; exact Nat.le_refl _) ?_; conv => whnf)
     | (refine AIn.mk' i rfl (by rw [List.length_map]; exact hlt) ?_; conv => whnf)
     | (refine ARd.map hlt ?_; conv => whnf)
     | (refine VReq.mk (app_ok (by (try simp only [ln] at *); omega) (by kernel_rfl)) ?_; conv => whnf))
    all_goals
     refine AAr.i64 (x := (i : Int) + 1) (by omega) ?_
     conv => whnf
     refine aback (i + 1) [(0, .lab 5)] [] rfl (by show l.length - (i + 1) < l.length - i; omega) hlt ⟨⟨rfl, rfl, ?_⟩, trivial⟩ ⟨rfl, rfl, trivial⟩
     rw [hnext, hins]
     exact insT_rows d l[i] k
theorem texts2A (l : Tx) (hs : l.length ≤ 512) (ht : TOK l) : AFn Tryz.prog GC 53 [tl l] 0 [] (Is (bs (txs l))) := (texts2O l hs ht).frz
end
end Go.Proofs.YtmhpfadbmpipkaaGreatDoor.Cl

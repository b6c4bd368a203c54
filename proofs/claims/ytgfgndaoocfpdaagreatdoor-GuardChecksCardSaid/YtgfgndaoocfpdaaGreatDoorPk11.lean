/- Joined parts of the proof. Library contracts at this program (written by the kit's command lay-plain) -/
import Derived.Shelf.Sort.Plain
import Derived.Shelf.Bits.Mul64
import Derived.Shelf.Slices.CompactS
import Derived.Test.YtgfgndaoocfpdaaGreatDoorProg
import Derived.Test.YtgfgndaoocfpdaaGreatDoorPk10
import Derived.Sort.Walk0
import Derived.Test.YtgfgndaoocfpdaaGreatDoorPk1
import Derived.Test.YtgfgndaoocfpdaaGreatDoorPk3
set_option linter.unusedVariables false
set_option linter.unusedSimpArgs false
set_option maxRecDepth 100000
set_option maxHeartbeats 16000000
namespace Go.Proofs
open Go.Shelf
def Tryz.lays190_ren : Go.Shelf.Ren := ⟨fun | 190 => 125 | 125 => 132 | 258 => 133 | 128 => 136 | 129 => 131 | 302 => 137 | 303 => 138 | 304 => 139 | 305 => 140 | 306 => 141 | 307 => 142 | 308 => 143 | 309 => 144 | 310 => 145 | 333 => 147 | 329 => 148 | 330 => 149 | 334 => 150 | 335 => 151 | 336 => 152 | 344 => 153 | n => n, fun | 31 => 71 | 9 => 9 | 3 => 3 | 46 => 172 | 0 => 0 | 51 => 169 | 53 => 85 | 4 => 4 | 183 => 205 | 182 => 204 | 131 => 184 | 5 => 5 | 218 => 210 | 222 => 214 | 228 => 216 | 229 => 102 | n => n, fun | n => n⟩
theorem Tryz.lays190 : Go.Proofs.Lays.n190 Tryz.prog Tryz.lays190_ren := {
 mixed := by kernel_rfl
 f125 := Tryz.func132.trans (congrArg some (by kernel_rfl))
 f128 := Tryz.func136.trans (congrArg some (by kernel_rfl))
 f129 := Tryz.func131.trans (congrArg some (by kernel_rfl))
 f190 := Tryz.func125.trans (congrArg some (by kernel_rfl))
 f258 := Tryz.func133.trans (congrArg some (by kernel_rfl))
 f302 := Tryz.func137.trans (congrArg some (by kernel_rfl))
 f303 := Tryz.func138.trans (congrArg some (by kernel_rfl))
 f304 := Tryz.func139.trans (congrArg some (by kernel_rfl))
 f305 := Tryz.func140.trans (congrArg some (by kernel_rfl))
 f306 := Tryz.func141.trans (congrArg some (by kernel_rfl))
 f307 := Tryz.func142.trans (congrArg some (by kernel_rfl))
 f308 := Tryz.func143.trans (congrArg some (by kernel_rfl))
 f309 := Tryz.func144.trans (congrArg some (by kernel_rfl))
 f310 := Tryz.func145.trans (congrArg some (by kernel_rfl))
 f329 := Tryz.func148.trans (congrArg some (by kernel_rfl))
 f330 := Tryz.func149.trans (congrArg some (by kernel_rfl))
 f333 := Tryz.func147.trans (congrArg some (by kernel_rfl))
 f334 := Tryz.func150.trans (congrArg some (by kernel_rfl))
 f335 := Tryz.func151.trans (congrArg some (by kernel_rfl))
 f336 := Tryz.func152.trans (congrArg some (by kernel_rfl))
 f344 := Tryz.func153.trans (congrArg some (by kernel_rfl))
 t0 := Tryz.underlying0
 a0 := Tryz.isAgg0
 z0 := Tryz.sizeOf0
 v0 := Tryz.zeroValue0
 t3 := Tryz.underlying3
 a3 := Tryz.isAgg3
 z3 := Tryz.sizeOf3
 v3 := Tryz.zeroValue3
 t4 := Tryz.underlying4
 a4 := Tryz.isAgg4
 z4 := Tryz.sizeOf4
 v4 := Tryz.zeroValue4
 t5 := Tryz.underlying5
 a5 := Tryz.isAgg5
 z5 := Tryz.sizeOf5
 v5 := Tryz.zeroValue5
 t9 := Tryz.underlying9
 a9 := Tryz.isAgg9
 z9 := Tryz.sizeOf9
 v9 := Tryz.zeroValue9
 t31 := Tryz.underlying71
 a31 := Tryz.isAgg71
 z31 := Tryz.sizeOf71
 v31 := Tryz.zeroValue71
 t46 := Tryz.underlying172
 a46 := Tryz.isAgg172
 z46 := Tryz.sizeOf172
 v46 := Tryz.zeroValue172
 t51 := Tryz.underlying169
 a51 := Tryz.isAgg169
 z51 := Tryz.sizeOf169
 v51 := Tryz.zeroValue169
 t53 := Tryz.underlying85
 a53 := Tryz.isAgg85
 z53 := Tryz.sizeOf85
 v53 := Tryz.zeroValue85
 t131 := Tryz.underlying184
 a131 := Tryz.isAgg184
 z131 := Tryz.sizeOf184
 v131 := Tryz.zeroValue184
 t182 := Tryz.underlying204
 a182 := Tryz.isAgg204
 z182 := Tryz.sizeOf204
 v182 := Tryz.zeroValue204
 t183 := Tryz.underlying205
 a183 := Tryz.isAgg205
 z183 := Tryz.sizeOf205
 v183 := Tryz.zeroValue205
 t218 := Tryz.underlying210
 a218 := Tryz.isAgg210
 z218 := Tryz.sizeOf210
 v218 := Tryz.zeroValue210
 t222 := Tryz.underlying214
 a222 := Tryz.isAgg214
 z222 := Tryz.sizeOf214
 v222 := Tryz.zeroValue214
 t228 := Tryz.underlying216
 a228 := Tryz.isAgg216
 z228 := Tryz.sizeOf216
 v228 := Tryz.zeroValue216
 t229 := Tryz.underlying102
 a229 := Tryz.isAgg102
 z229 := Tryz.sizeOf102
 v229 := Tryz.zeroValue102 }
open Go.Sort Go.RowKit in
theorem Tryz.slices_Sort_string (blk off cap : Nat) (ss : List (List UInt8)) (w : World) (hH : Holds encStr w blk off ss.toArray) (hblk : blk < w.heap.size) (hsz : ss.length < 4611686018427387904) :
  Calls Tryz.prog 125 #[.slice (some ⟨blk, off, none⟩) ss.length cap] w fun e w' =>
   e = .returned (.tuple #[]) ∧ ∃ n os, w' = grow (putRow encStr (Sort.ahead w n) blk off (ss.mergeSort fun x y => decide (x ≤ y)).toArray) os := Any.slices_Sort_string Tryz.lays190 blk off cap ss w hH hblk hsz
def Tryz.lays264_ren : Go.Shelf.Ren := ⟨fun | 264 => 94 | n => n, fun | 53 => 85 | 46 => 172 | n => n, fun | n => n⟩
theorem Tryz.lays264 : Go.Proofs.Lays.n264 Tryz.prog Tryz.lays264_ren := {
 mixed := by kernel_rfl
 f264 := Tryz.func94.trans (congrArg some (by kernel_rfl))
 t46 := Tryz.underlying172
 a46 := Tryz.isAgg172
 z46 := Tryz.sizeOf172
 v46 := Tryz.zeroValue172
 t53 := Tryz.underlying85
 a53 := Tryz.isAgg85
 z53 := Tryz.sizeOf85
 v53 := Tryz.zeroValue85 }
open Go.RowKit Go.Lib in
theorem Tryz.bits_Mul64 (x y : Nat) (hx : x < 18446744073709551616) (hy : y < 18446744073709551616) (w : World) :
  Calls Tryz.prog 94 #[.int .u64 x, .int .u64 y] w fun e w' => e = .returned (.tuple #[.int .u64 ((x * y / 18446744073709551616 : Nat) : Int), .int .u64 ((x * y % 18446744073709551616 : Nat) : Int)]) ∧ w' = w := Any.bits_Mul64 Tryz.lays264 x y hx hy w
def Tryz.lays194_ren : Go.Shelf.Ren := ⟨fun | 194 => 126 | n => n, fun | 31 => 71 | 9 => 9 | 3 => 3 | 4 => 4 | 0 => 0 | n => n, fun | n => n⟩
theorem Tryz.lays194 : Go.Proofs.Lays.n194 Tryz.prog Tryz.lays194_ren := {
 mixed := by kernel_rfl
 f194 := Tryz.func126.trans (congrArg some (by kernel_rfl))
 t0 := Tryz.underlying0
 a0 := Tryz.isAgg0
 z0 := Tryz.sizeOf0
 v0 := Tryz.zeroValue0
 t3 := Tryz.underlying3
 a3 := Tryz.isAgg3
 z3 := Tryz.sizeOf3
 v3 := Tryz.zeroValue3
 t4 := Tryz.underlying4
 a4 := Tryz.isAgg4
 z4 := Tryz.sizeOf4
 v4 := Tryz.zeroValue4
 t9 := Tryz.underlying9
 a9 := Tryz.isAgg9
 z9 := Tryz.sizeOf9
 v9 := Tryz.zeroValue9
 t31 := Tryz.underlying71
 a31 := Tryz.isAgg71
 z31 := Tryz.sizeOf71
 v31 := Tryz.zeroValue71 }
open Go.RowKit Go.Lib Go.Sort in
theorem Tryz.slices_Compact_string (blk off cap : Nat) (zs : List (List UInt8)) (w : World) (hH : Holds encStr w blk off zs.toArray) (hsz : zs.length ≤ 9223372036854775807) (hcap : zs.length ≤ cap) :
  Calls Tryz.prog 126 #[.slice (some ⟨blk, off, none⟩) zs.length cap] w fun e w' => e = .returned (.slice (some ⟨blk, off, none⟩) (Lib.compact zs).length cap) ∧ ∃ q, w' = putRow encStr (Sort.ahead w q) blk off (Lib.compact zs ++ List.replicate (zs.length - (Lib.compact zs).length) []).toArray := Any.slices_Compact_string Tryz.lays194 blk off cap zs w hH hsz hcap
end Go.Proofs
namespace Go.Proofs.YtgfgndaoocfpdaaGreatDoor.Cl
theorem tlt_irr (a : By) : ¬ a < a := List.lt_irrefl a
theorem tlt_tr {a b c : By} (h1 : a < b) (h2 : b < c) : a < c := List.lt_trans h1 h2
theorem tlt_tri {a b : By} (h1 : ¬ a < b) (h2 : a ≠ b) : b < a := by
 by_cases h : b < a
 ·exact h
 ·exact absurd (List.le_antisymm (List.not_lt.1 h) (List.not_lt.1 h1)) h2
theorem tlt_asym {a b : By} (h1 : a < b) (h2 : b < a) : False := tlt_irr a (tlt_tr h1 h2)
def insT (d : Tx) (x : By) : Tx :=
 match d with
 | [] => [x]
 | y :: r => if y < x then y :: insT r x else if y = x then y :: r else x :: y :: r
def dsT (l : Tx) : Tx := l.foldl insT []
def SST (d : Tx) : Prop := d.Pairwise (· < ·)
theorem insT_mem (d : Tx) (x y : By) : y ∈ insT d x ↔ y ∈ d ∨ y = x := by
 induction d with
 | nil => simp [insT]
 | cons z r ih =>
  unfold insT
  split
  ·simp only [List.mem_cons, ih, or_assoc]
  ·split
   ·rename_i e; subst e; simp only [List.mem_cons]; constructor
    ·intro h; exact .inl h
    ·rintro (h | rfl)
     ·exact h
     ·exact .inl rfl
   ·simp only [List.mem_cons]; constructor
    ·rintro (h | h | h)
     ·exact .inr h
     ·exact .inl (.inl h)
     ·exact .inl (.inr h)
    ·rintro ((h | h) | h)
     ·exact .inr (.inl h)
     ·exact .inr (.inr h)
     ·exact .inl h
theorem insT_ss {d : Tx} {x : By} (h : SST d) : SST (insT d x) := by
 induction d with
 | nil => simp [insT, SST]
 | cons z r ih =>
  have h1 := List.pairwise_cons.1 h
  unfold insT
  split
  ·rename_i hz
   refine List.pairwise_cons.2 ⟨fun a ha => ?_, ih h1.2⟩
   rcases (insT_mem r x a).1 ha with h2 | h2
   ·exact h1.1 a h2
   ·rw [h2]; exact hz
  ·split
   ·exact h
   ·rename_i n1 n2
    have hx := tlt_tri n1 n2
    refine List.pairwise_cons.2 ⟨fun a ha => ?_, h⟩
    rcases List.mem_cons.1 ha with h2 | h2
    ·rw [h2]; exact hx
    ·exact tlt_tr hx (h1.1 a h2)
theorem dsT_fold (l : Tx) : ∀ d, SST d → SST (l.foldl insT d) ∧ ∀ y, y ∈ l.foldl insT d ↔ y ∈ d ∨ y ∈ l := by
 induction l with
 | nil => intro d h; simp [h]
 | cons x r ih =>
  intro d h
  have := ih (insT d x) (insT_ss h)
  refine ⟨this.1, fun y => ?_⟩
  rw [List.foldl_cons, this.2 y, insT_mem, List.mem_cons, or_assoc]
theorem dsT_ss (l : Tx) : SST (dsT l) := (dsT_fold l [] List.Pairwise.nil).1
theorem dsT_mem (l : Tx) (y : By) : y ∈ dsT l ↔ y ∈ l := by rw [dsT, (dsT_fold l [] List.Pairwise.nil).2 y]; simp
theorem ssT_uniq {a : Tx} : ∀ {b : Tx}, SST a → SST b → (∀ y, y ∈ a ↔ y ∈ b) → a = b := by
 induction a with
 | nil => intro b _ _ h; cases b with
  | nil => rfl
  | cons y r => exact absurd ((h y).2 List.mem_cons_self) (by simp)
 | cons x r ih =>
  intro b ha hb h
  have h1 := List.pairwise_cons.1 ha
  cases b with
  | nil => exact absurd ((h x).1 List.mem_cons_self) (by simp)
  | cons y s =>
   have h2 := List.pairwise_cons.1 hb
   have e : x = y := by
    have m1 := (h x).1 List.mem_cons_self
    have m2 := (h y).2 List.mem_cons_self
    rcases List.mem_cons.1 m1 with e | e
    ·exact e
    ·rcases List.mem_cons.1 m2 with e2 | e2
     ·exact e2.symm
     ·exact (tlt_asym (h1.1 y e2) (h2.1 x e)).elim
   subst e
   congr 1
   refine ih h1.2 h2.2 fun z => ⟨fun hz => ?_, fun hz => ?_⟩
   ·rcases List.mem_cons.1 ((h z).1 (List.mem_cons_of_mem _ hz)) with e | e
    ·have := h1.1 z hz; rw [e] at this; exact (tlt_irr _ this).elim
    ·exact e
   ·rcases List.mem_cons.1 ((h z).2 (List.mem_cons_of_mem _ hz)) with e | e
    ·have := h2.1 z hz; rw [e] at this; exact (tlt_irr _ this).elim
    ·exact e
theorem dsT_of {l d : Tx} (h1 : SST d) (h2 : ∀ y, y ∈ d ↔ y ∈ l) : d = dsT l := ssT_uniq h1 (dsT_ss l) fun y => by rw [h2, dsT_mem]
theorem insT_len (d : Tx) (x : By) : (insT d x).length ≤ d.length + 1 := by
 induction d with
 | nil => simp [insT]
 | cons y r ih =>
  unfold insT
  split
  ·simp only [List.length_cons]; omega
  ·split <;> simp
theorem dsT_len (l : Tx) : (dsT l).length ≤ l.length := by
 have : ∀ (l d : Tx), (l.foldl insT d).length ≤ d.length + l.length := by
  intro l
  induction l with
  | nil => intro d; simp
  | cons x r ih => intro d; have h1 := ih (insT d x); have h2 := insT_len d x; simp only [List.foldl_cons, List.length_cons]; omega
 have := this l []
 simpa [dsT] using this
def srtT (l : Tx) : Tx := l.mergeSort fun x y => decide (x ≤ y)
theorem srtT_len (l : Tx) : (srtT l).length = l.length := List.length_mergeSort l
theorem srtT_mem (l : Tx) (y : By) : y ∈ srtT l ↔ y ∈ l := List.mem_mergeSort
theorem srtT_sorted (l : Tx) : (srtT l).Pairwise (· ≤ ·) := by
 have := List.pairwise_mergeSort (le := fun x y : By => decide (x ≤ y)) (fun a b c h1 h2 => by simp only [decide_eq_true_eq] at *; exact List.le_trans h1 h2) (fun a b => by simp only [Bool.or_eq_true, decide_eq_true_eq]; exact List.le_total a b) l
 exact this.imp fun h => by simpa using h
theorem cmpT_spec (z : Tx) (hs : z.Pairwise (· ≤ ·)) : ∀ m, m ≤ z.length → SST (Go.Lib.compactUpTo z.toArray m) ∧ ∀ y, y ∈ Go.Lib.compactUpTo z.toArray m ↔ y ∈ z.take m := by
 intro m
 induction m with
 | zero => intro _; simp [Go.Lib.compactUpTo, SST]
 | succ m ih =>
  intro hm
  have hlt : m < z.length := by omega
  obtain ⟨h1, h2⟩ := ih (by omega)
  have em : z.toArray[m]! = z[m] := by simp [hlt]
  have le : ∀ j (hj : j < m), z[j]'(by omega) ≤ z[m] := fun j hj => List.pairwise_iff_getElem.1 hs j m (by omega) hlt hj
  rw [Go.Lib.compactUpTo_succ, List.take_succ_eq_append_getElem hlt, em]
  by_cases hk : Go.Lib.keeps z.toArray m = true
  ·rw [if_pos hk]
   refine ⟨List.pairwise_append.2 ⟨h1, List.pairwise_singleton _ _, fun a ha b hb => ?_⟩, fun y => by simp only [List.mem_append, h2, List.mem_singleton]⟩
   rw [List.mem_singleton.1 hb]
   obtain ⟨j, hj, e⟩ := List.getElem_of_mem ((h2 a).1 ha)
   rw [List.length_take] at hj
   rw [List.getElem_take] at e
   have hjm : j < m := by omega
   have hne : z[m - 1]'(by omega) ≠ z[m] := by
    unfold Go.Lib.keeps at hk
    rw [decide_eq_true_eq] at hk
    rcases hk with h | h
    ·omega
    ·rw [em] at h
     have e1 : z.toArray[m - 1]! = z[m - 1]'(by omega) := by simp [show m - 1 < z.length by omega]
     rw [e1] at h
     exact fun e => h e.symm
   have l1 : z[m - 1]'(by omega) ≤ z[m] := le (m - 1) (by omega)
   have l2 : z[j]'(by omega) ≤ z[m - 1]'(by omega) := by
    rcases Nat.lt_or_ge j (m - 1) with h | h
    ·exact List.pairwise_iff_getElem.1 hs j (m - 1) (by omega) (by omega) h
    ·have : j = m - 1 := by omega
     subst this; exact List.le_refl _
   have l3 : z[m - 1]'(by omega) < z[m] := by
    by_cases h : z[m - 1]'(by omega) < z[m]
    ·exact h
    ·exact absurd (List.le_antisymm l1 (List.not_lt.1 h)) hne
   rw [← e]
   exact List.lt_of_le_of_lt l2 l3
  ·rw [if_neg hk, List.append_nil]
   refine ⟨h1, fun y => ?_⟩
   rw [h2, List.mem_append, List.mem_singleton]
   constructor
   ·exact .inl
   ·rintro (h | h)
    ·exact h
    ·unfold Go.Lib.keeps at hk
     rw [decide_eq_true_eq] at hk
     have h0 : 0 < m := by
      rcases Nat.eq_zero_or_pos m with e | e
      ·exact absurd (.inl e) hk
      ·exact e
     have e1 : z.toArray[m - 1]! = z[m - 1]'(by omega) := by simp [show m - 1 < z.length by omega]
     have e2 : z[m] = z[m - 1]'(by omega) := by
      rw [em, e1] at hk
      exact Classical.byContradiction fun h => hk (.inr h)
     rw [h, e2]
     exact List.mem_iff_getElem.2 ⟨m - 1, by rw [List.length_take]; omega, by rw [List.getElem_take]⟩
theorem compact_dsT (l : Tx) : Go.Lib.compact (srtT l) = dsT l := by
 have h := cmpT_spec (srtT l) (srtT_sorted l) (srtT l).length (Nat.le_refl _)
 rw [List.take_length] at h
 exact dsT_of h.1 fun y => by
  have := h.2 y
  rw [srtT_mem] at this
  exact this
attribute [local irreducible] loadVar storeVar Instr.indexAt Instr.index Instr.sliceAt Instr.makeSlice Instr.lookup Instr.mapUpdate Instr.range Instr.next Instr.entry Instr.makeMap Builtin.append_ Builtin.copy_ Builtin.len_ Builtin.min_ Builtin.max_ Builtin.cap_ Builtin.delete_ Builtin.clear_ convert binOp eqGuard Op.unary Calls
section
open Go Go.RowKit Go.Proofs Go.Proofs.YtgfgndaoocfpdaaGreatDoor.Vc Go.Proofs.YtgfgndaoocfpdaaGreatDoor.Ax
abbrev tv (s : By) : AV := .v (.string ⟨s.toArray⟩)
def enT (s : By) : List FV := [.v (.string ⟨s.toArray⟩)]
abbrev tl (l : Tx) : AV := .lst 1 (l.map enT)
theorem sLt_by (a b : By) : sLt ⟨a.toArray⟩ ⟨b.toArray⟩ = decide (a < b) := by
 unfold sLt
 rw [bytesLess_eq, Lib.toList_data, Lib.toList_data]
section
variable {G : Glob}
theorem oneT (a : By) : (encStr a).oneCell' = true := rfl
theorem sortTA (l : Tx) (hne : l ≠ []) (hs : l.length ≤ 1000000) : AFn Tryz.prog G 125 [.own 0] 1 [(0, .rows 9 1 (l.map enT))] (fun a n H => a = .tup [] ∧ n = 1 ∧ H = [(0, .rows 9 1 ((srtT l).map enT))]) :=
 afn_place (enc := encStr) (V := fun _ _ v => v = .tuple #[]) oneT hne (srtT_len l)
  (fun w blk cap hH hb _ => Calls.mono (Tryz.slices_Sort_string blk 0 cap l w hH hb (by omega)) fun e w' ⟨h1, h2⟩ => ⟨_, h1, rfl, h2⟩)
  (fun w σ F blk cap v _ _ hv => by subst hv; exact RepL.tup («as» := []) (vs := []) trivial)
theorem compactTA (l : Tx) (hne : l ≠ []) (hs : l.length ≤ 1000000) : AFn Tryz.prog G 126 [.own 0] 1 [(0, .rows 9 1 ((srtT l).map enT))] (fun a n H => a = .sub 0 0 (dsT l).length ∧ n = 1 ∧ H = [(0, .rows 9 1 ((dsT l ++ List.replicate (l.length - (dsT l).length) []).map enT))]) :=
 afn_place (enc := encStr) (zs' := dsT l ++ List.replicate (l.length - (dsT l).length) []) (V := fun blk cap v => v = .slice (some ⟨blk, 0, none⟩) (dsT l).length cap) oneT (by intro h; have := srtT_len l; rw [h] at this; exact hne (List.eq_nil_of_length_eq_zero this.symm))
  (by have := dsT_len l; rw [srtT_len, List.length_append, List.length_replicate]; omega)
  (fun w blk cap hH hb hc => Calls.mono (Tryz.slices_Compact_string blk 0 cap (srtT l) w hH (by rw [srtT_len]; omega) hc) fun e w' ⟨h1, q, h2⟩ => ⟨_, h1, by rw [compact_dsT], q, #[], by rw [h2, compact_dsT, Sort.grow_empty, srtT_len]⟩)
  (fun w σ F blk cap v hσ hc hv => by
   subst hv
   have hd := dsT_len l
   rw [srtT_len] at hσ hc
   refine .sub 0 0 _ _ cap (by decide) (by rw [hσ]; show 0 + _ ≤ l.length; omega) (by omega) (fun h => by cases h) fun _ => ⟨blk, by rw [hσ], by rw [Nat.zero_mul]⟩)
theorem take_dsT (l : Tx) (x : Tx) : (((dsT l ++ x).map enT).drop 0).take (dsT l).length = (dsT l).map enT := by
 rw [List.drop_zero, List.map_append]
 exact List.take_left' (List.length_map _)
end
end
section
open Go Go.Proofs.YtgfgndaoocfpdaaGreatDoor.Vc Go.Proofs.YtgfgndaoocfpdaaGreatDoor.Id
abbrev ba (s : By) : ByteArray := ⟨s.toArray⟩
def ab (s : ByteArray) : By := s.data.toList
theorem ba_ab (s : ByteArray) : ba (ab s) = s := by cases s; rfl
theorem sLt_ab (a b : ByteArray) : sLt a b = decide (ab a < ab b) := by
 have h : sLt (ba (ab a)) (ba (ab b)) = decide (ab a < ab b) := sLt_by (ab a) (ab b)
 rw [ba_ab, ba_ab] at h
 exact h
def nlt (a b : ByteArray) : Prop := ¬ ab a < ab b
theorem smin_or (x y : ByteArray) (h : x ≠ y) : (smin x y = x ∧ smax x y = y ∧ ab x < ab y) ∨ (smin x y = y ∧ smax x y = x ∧ ab y < ab x) := by
 have he : sEq x y = false := by rw [sEq_dec]; simpa using h
 have hn : ab x ≠ ab y := fun e => h (by rw [← ba_ab x, e, ba_ab])
 unfold smin smax
 cases hl : sLt x y with
 | true =>
  rw [sLt_ab] at hl
  exact .inl ⟨by simp, by simp, by simpa using hl⟩
 | false =>
  rw [sLt_ab] at hl
  exact .inr ⟨by simp [he], by simp [he], tlt_tri (by simpa using hl) hn⟩
theorem nlt_tr {a b c : ByteArray} (h1 : nlt a b) (h2 : ab c < ab b) : nlt a c := fun h => h1 (tlt_tr h h2)
theorem snoc_ind {P : List Lk → Prop} (h0 : P []) (h1 : ∀ l k, P l → P (l ++ [k])) : ∀ l, P l := by
 have : ∀ n (l : List Lk), l.length = n → P l := by
  intro n
  induction n with
  | zero => intro l hl; rw [List.eq_nil_of_length_eq_zero hl]; exact h0
  | succ n ih =>
   intro l hl
   have hne : l ≠ [] := fun e => by simp [e] at hl
   rw [← List.dropLast_concat_getLast hne]
   exact h1 _ _ (ih _ (by simp [hl]))
 exact fun l => this _ l rfl
theorem rt_idem : ∀ (l : List Lk) (x : ByteArray), rt l (rt l x) = rt l x := by
 refine snoc_ind (fun x => rfl) fun l k ih x => ?_
 rw [rt_snoc]
 by_cases h : rt l k.a = rt l k.b
 ·rw [jn_eq h]; exact ih x
 ·rw [jn_ne h]
  have hm : rt l (smin (rt l k.a) (rt l k.b)) = smin (rt l k.a) (rt l k.b) ∧ smin (rt l k.a) (rt l k.b) ≠ smax (rt l k.a) (rt l k.b) := by
   rcases smin_or _ _ h with ⟨e1, e2, _⟩ | ⟨e1, e2, _⟩
   ·rw [e1, e2]; exact ⟨ih _, h⟩
   ·rw [e1, e2]; exact ⟨ih _, fun e => h e.symm⟩
  by_cases hx : rt l x = smax (rt l k.a) (rt l k.b)
  ·simp only [if_pos hx, hm.1, if_neg hm.2]
  ·simp only [if_neg hx, ih x, if_neg hx]
theorem con_rt (l : List Lk) (x : ByteArray) : con l x (rt l x) := (rt_idem l x).symm
theorem rt_least : ∀ (l : List Lk) (x y : ByteArray), con l x y → nlt y (rt l x) := by
 refine snoc_ind (fun x y h => ?_) fun l k ih x y h => ?_
 ·rw [con_nil] at h; subst h; exact fun h => tlt_irr _ h
 ·unfold con at h
  rw [rt_snoc] at h ⊢
  by_cases hk : rt l k.a = rt l k.b
  ·rw [jn_eq hk] at h ⊢; exact ih x y h
  ·rw [jn_ne hk] at h ⊢
   have hlt : ab (smin (rt l k.a) (rt l k.b)) < ab (smax (rt l k.a) (rt l k.b)) := by
    rcases smin_or _ _ hk with ⟨e1, e2, e3⟩ | ⟨e1, e2, e3⟩ <;> rw [e1, e2] <;> exact e3
   have hmin : ∀ z, rt l z = smax (rt l k.a) (rt l k.b) → nlt z (smin (rt l k.a) (rt l k.b)) := fun z hz => by
    have := ih z z rfl
    rw [hz] at this
    exact nlt_tr this hlt
   simp only at h ⊢
   by_cases hx : rt l x = smax (rt l k.a) (rt l k.b)
   ·rw [if_pos hx] at h ⊢
    by_cases hy : rt l y = smax (rt l k.a) (rt l k.b)
    ·exact hmin y hy
    ·rw [if_neg hy] at h
     have := ih y y rfl
     rwa [← h] at this
   ·rw [if_neg hx] at h ⊢
    by_cases hy : rt l y = smax (rt l k.a) (rt l k.b)
    ·rw [if_pos hy] at h
     rw [h]; exact hmin y hy
    ·rw [if_neg hy] at h
     exact ih x y h
def idsL (l : List Lk) : List ByteArray := l.flatMap fun k => [k.a, k.b]
theorem idsL_mem (l : List Lk) (x : ByteArray) : x ∈ idsL l ↔ ∃ k ∈ l, x = k.a ∨ x = k.b := by unfold idsL; simp
theorem con_own {l : List Lk} {x y : ByteArray} (hx : x ∉ idsL l) (h : con l x y) : y = x := by
 have := con_closed (fun z => z = x) l.length l rfl (fun k hk => ?_) x y h
 ·exact this.1 rfl
 ·have h1 : k.a ≠ x := fun e => hx ((idsL_mem l x).2 ⟨k, hk, .inl e.symm⟩)
  have h2 : k.b ≠ x := fun e => hx ((idsL_mem l x).2 ⟨k, hk, .inr e.symm⟩)
  exact ⟨fun e => absurd e h1, fun e => absurd e h2⟩
theorem rt_own {l : List Lk} {x : ByteArray} (hx : x ∉ idsL l) : rt l x = x := con_own hx (con_rt l x)
theorem rt_in {l : List Lk} {x : ByteArray} (hx : x ∈ idsL l) : rt l x ∈ idsL l := by
 by_cases h : rt l x ∈ idsL l
 ·exact h
 ·have : x = rt l x := con_own h (con_rt l x).symm
  rw [this] at hx
  exact absurd hx h
def frs (l : List Lk) : List Lk := l.foldl (fun o k => if rt o k.a = rt o k.b then o else o ++ [k]) []
theorem frs_snoc (l : List Lk) (k : Lk) : frs (l ++ [k]) = if rt (frs l) k.a = rt (frs l) k.b then frs l else frs l ++ [k] := by unfold frs; rw [List.foldl_append]; rfl
theorem frs_rt : ∀ l : List Lk, rt (frs l) = rt l := by
 refine snoc_ind rfl fun l k ih => ?_
 rw [frs_snoc, rt_snoc]
 split
 ·rename_i h
  rw [ih] at h ⊢
  rw [jn_eq h]
 ·rw [rt_snoc, ih]
theorem frs_len : ∀ l : List Lk, (frs l).length ≤ l.length := by
 refine snoc_ind (Nat.le_refl _) fun l k ih => ?_
 rw [frs_snoc]
 split
 ·simp; omega
 ·simp; omega
end
section
open Go Go.RowKit Go.Proofs Go.Proofs.YtgfgndaoocfpdaaGreatDoor.Vc Go.Proofs.YtgfgndaoocfpdaaGreatDoor.Ax
structure Ev where
 client : By
 seq : Int
 kind : Int
 time : Int
 id : By
 name : By
 other : By
 ver : Int
 arm : Int
 val : Int
abbrev sF (s : By) : FV := .v (.string ⟨s.toArray⟩)
abbrev iF (n : Int) : FV := .v (.int .i64 n)
def enE (e : Ev) : List FV := [sF e.client, iF e.seq, iF e.kind, iF e.time, sF e.id, sF e.name, sF e.other, iF e.ver, iF e.arm, iF e.val]
def evA (e : Ev) : AV := .agg ((enE e).map FV.up)
abbrev el (l : List Ev) : AV := .lst 10 (l.map enE)
structure Ev.ok (e : Ev) : Prop where
 seq : I64 e.seq
 kind : I64 e.kind
 time : I64 e.time
 ver : I64 e.ver
 arm : I64 e.arm
 val : I64 e.val
 client : e.client.length ≤ 140737488355328
 id : e.id.length ≤ 140737488355328
 name : e.name.length ≤ 140737488355328
 other : e.other.length ≤ 140737488355328
def evc (e : Ev) : List Value := [.string ⟨e.client.toArray⟩, .int .i64 e.seq, .int .i64 e.kind, .int .i64 e.time, .string ⟨e.id.toArray⟩, .string ⟨e.name.toArray⟩, .string ⟨e.other.toArray⟩, .int .i64 e.ver, .int .i64 e.arm, .int .i64 e.val]
theorem evc_len (e : Ev) : (evc e).length = 10 := rfl
theorem enE_evc (e : Ev) : enE e = (evc e).map .v := rfl
end
end Go.Proofs.YtgfgndaoocfpdaaGreatDoor.Cl
namespace Go.Proofs.YtgfgndaoocfpdaaGreatDoor.Ky
open Go Go.RowKit Go.Proofs.YtgfgndaoocfpdaaGreatDoor.Vc Go.Proofs.YtgfgndaoocfpdaaGreatDoor.Id
attribute [local irreducible] loadVar storeVar Instr.indexAt Instr.index Instr.sliceAt Instr.makeSlice Instr.lookup Instr.mapUpdate Instr.range Instr.next Instr.entry Instr.makeMap Builtin.append_ Builtin.copy_ Builtin.len_ Builtin.min_ Builtin.max_ Builtin.cap_ Builtin.delete_ Builtin.clear_ convert binOp eqGuard Op.unary Calls
section
theorem mixed : Tryz.prog.follows .mixedOrders = true := by kernel_rfl
def okB (i c : Nat) : Bool := (decide (97 ≤ c) && decide (c ≤ 122)) || (!decide (i = 0) && ((decide (48 ≤ c) && decide (c ≤ 57)) || decide (c = 45) || decide (c = 95)))
theorem okB_iff (i c : Nat) : okB i c = true ↔ (97 ≤ c ∧ c ≤ 122) ∨ (i ≠ 0 ∧ ((48 ≤ c ∧ c ≤ 57) ∨ c = 45 ∨ c = 95)) := by
 simp [okB, or_assoc]
theorem okB_not (i c : Nat) : okB i c = false ↔ ¬ ((97 ≤ c ∧ c ≤ 122) ∨ (i ≠ 0 ∧ ((48 ≤ c ∧ c ≤ 57) ∨ c = 45 ∨ c = 95))) := by
 rw [← okB_iff]; simp
def wordB : Nat → List UInt8 → Bool
 | _, [] => true
 | i, c :: l => okB i c.toNat && wordB (i + 1) l
theorem wordB_step (l : List UInt8) (i : Nat) (h : i < l.length) : wordB i (l.drop i) = (okB i l[i].toNat && wordB (i + 1) (l.drop (i + 1))) := by
 rw [List.drop_eq_getElem_cons h]; rfl
theorem word_ok (s : ByteArray) (w : World) (hs : s.size ≤ 140737488355328) :
  Ret Tryz.prog 60 #[.string s] w fun v w' => v = .bool (wordB 0 (bys s) && decide (1 ≤ s.size)) ∧ w' = w := by
 refine ret_of_vc Tryz.func60 rfl mixed (by kernel_rfl) ?_
 have hl := bys_len s
 conv=>whnf
 refine vloop (X := Nat) ws60_1 (fun i => [(3, .int .i64 i)]) (fun i w' => i ≤ s.size ∧ w' = w ∧ wordB 0 (bys s) = wordB i ((bys s).drop i)) (fun i => s.size - i) 0 (by kernel_rfl)
  ?_ ⟨Nat.zero_le _, rfl, rfl⟩ ?_
 ·exact ⟨rfl, trivial⟩
 rintro i w1 j ⟨hi, rfl, hp⟩
 conv=>whnf
 refine vif_split (fun hlt => ?_) (fun hge => ?_)
 ·have hlt : i < s.size := by have := of_decide_eq_true hlt; omega
  have hst := wordB_step (bys s) i (by omega)
  have hc : (bys s)[i]'(by omega) = s[i] := by simp; rfl
  rw [hc] at hst
  have hcb : s[i].toNat < 256 := s[i].toNat_lt
  obtain ⟨c, hcc⟩ : ∃ c, c = s[i].toNat := ⟨_, rfl⟩
  rw [hst] at hp
  rw [hp]
  have hno := okB_not i c
  have hyes := okB_iff i c
  rw [← hcc] at hcb ⊢ hp
  conv=>whnf
  refine vs_ixS i rfl rfl hlt ?_
  rw [← hcc]
  conv=>whnf
  clear hst hc hp
  have e0 : okB i c = false → (okB i c && wordB (i + 1) ((bys s).drop (i + 1)) && decide (1 ≤ s.size)) = false := fun h => by rw [h]; rfl
  have e1 : okB i c = true → (okB i c && wordB (i + 1) ((bys s).drop (i + 1))) = wordB (i + 1) ((bys s).drop (i + 1)) := fun h => by rw [h]; rfl
  (repeat' (apply vif_split <;> intro h; all_goals (conv=>whnf)))
  all_goals first
   | exact VEnd.mk ⟨congrArg Value.bool (e0 (hno.2 (by (try simp only [cond_true, cond_false, Bool.not_eq_true', Bool.not_eq_false', decide_eq_true_eq, decide_eq_false_iff_not, beq_iff_eq, bne_iff_ne, beq_eq_false_iff_ne, bne_eq_false_iff_eq, ne_eq, Bool.not_eq_eq_eq_not, Bool.not_true, Bool.not_false, Bool.false_eq_true, Bool.true_eq_false] at *) <;> omega))).symm, rfl⟩
   | exact VBack.mk ⟨_, (show s.size - (i + 1) < s.size - i by omega), i + 1, rfl, ⟨intEq (incr (by omega)), trivial⟩, hlt, rfl, e1 (hyes.2 (by (try simp only [cond_true, cond_false, Bool.not_eq_true', Bool.not_eq_false', decide_eq_true_eq, decide_eq_false_iff_not, beq_iff_eq, bne_iff_ne, beq_eq_false_iff_ne, bne_eq_false_iff_eq, ne_eq, Bool.not_eq_eq_eq_not, Bool.not_true, Bool.not_false, Bool.false_eq_true, Bool.true_eq_false] at *) <;> omega))⟩
 ·have hge : ¬ i < s.size := by have := of_decide_eq_false hge; omega
  obtain rfl : i = s.size := by omega
  rw [List.drop_of_length_le (by omega)] at hp
  have hp2 : wordB 0 (bys s) = true := hp
  rw [hp2]
  conv=>whnf
  exact VEnd.mk ⟨by show Value.bool _ = _; simp; omega, rfl⟩
def resv : List ByteArray := [⟨#[97, 110, 100]⟩, ⟨#[97, 114, 109, 115]⟩, ⟨#[97, 116, 116, 114, 105, 98, 117, 116, 101]⟩, ⟨#[98, 111, 111, 108]⟩, ⟨#[99, 108, 97, 105, 109, 115]⟩, ⟨#[99, 111, 110, 116, 97, 105, 110, 115]⟩, ⟨#[99, 111, 111, 108]⟩, ⟨#[99, 111, 111, 108, 105, 110, 103]⟩, ⟨#[100, 101, 102, 97, 117, 108, 116]⟩, ⟨#[100, 114, 97, 102, 116]⟩, ⟨#[101, 110, 100, 115]⟩, ⟨#[101, 120, 99, 108, 117, 100, 101]⟩, ⟨#[101, 120, 105, 115, 116, 115]⟩, ⟨#[101, 120, 112, 101, 114, 105, 109, 101, 110, 116]⟩, ⟨#[102, 97, 108, 115, 101]⟩, ⟨#[102, 108, 97, 103]⟩, ⟨#[104, 111, 108, 100, 111, 117, 116]⟩, ⟨#[105, 110]⟩, ⟨#[105, 110, 99, 108, 117, 100, 101]⟩, ⟨#[105, 115]⟩, ⟨#[108, 97, 121, 101, 114]⟩, ⟨#[108, 105, 115, 116]⟩, ⟨#[109, 101, 109, 98, 101, 114]⟩, ⟨#[110, 101, 101, 100, 115]⟩, ⟨#[110, 111, 116]⟩, ⟨#[110, 117, 109, 98, 101, 114]⟩, ⟨#[111, 102, 102]⟩, ⟨#[111, 110]⟩, ⟨#[111, 114]⟩, ⟨#[114, 117, 108, 101]⟩, ⟨#[114, 117, 110, 110, 105, 110, 103]⟩, ⟨#[115, 97, 108, 116]⟩, ⟨#[115, 101, 103, 109, 101, 110, 116]⟩, ⟨#[115, 101, 114, 118, 101]⟩, ⟨#[115, 101, 116, 116, 105, 110, 103, 115]⟩, ⟨#[115, 112, 108, 105, 116]⟩, ⟨#[115, 116, 97, 114, 116, 115]⟩, ⟨#[115, 116, 111, 112, 112, 101, 100]⟩, ⟨#[116, 97, 114, 103, 101, 116]⟩, ⟨#[116, 101, 120, 116]⟩, ⟨#[116, 111]⟩, ⟨#[116, 114, 117, 101]⟩, ⟨#[117, 110, 116, 105, 108]⟩, ⟨#[118, 97, 114, 105, 97, 116, 105, 111, 110, 115]⟩, ⟨#[118, 101, 114, 115, 105, 111, 110]⟩, ⟨#[119, 104, 101, 110]⟩]
def keyB (s : ByteArray) : Bool := decide (1 ≤ s.size) && decide (s.size ≤ 32) && wordB 0 (bys s) && !(resv.any fun r => sEq r s)
theorem any_take (l : List ByteArray) (f : ByteArray → Bool) (i : Nat) (h : i < l.length) : (l.drop i).any f = (f l[i] || (l.drop (i + 1)).any f) := by
 rw [List.drop_eq_getElem_cons h]; rfl
def svals (l : List ByteArray) : List Value := l.map .string
theorem svals_get {l : List ByteArray} {j : Nat} (h : j < l.length) : (svals l)[j]? = some (.string l[j]) := by simp [svals, h]
theorem reserved_ok (w : World) : Ret Tryz.prog 61 #[] w fun v w' => v = .slice (some ⟨w.heap.size, 0, none⟩) 46 46 ∧ At w' w.heap.size 0 (svals resv) ∧ w.heap.size < w'.heap.size ∧ Below w.heap.size w w' := by
 refine ret_of_vc Tryz.func61 rfl mixed (by kernel_rfl) ?_
 conv=>whnf
 refine VEnd.mk ⟨rfl, ?_, by simp, balloc (Below.refl _ _) (Nat.le_refl _) _⟩
 exact (Blk.new w _ _).at
theorem resv_len : resv.length = 46 := rfl
attribute [local irreducible] resv
theorem key2_ok (s : ByteArray) (w : World) (hs : s.size ≤ 140737488355328) :
  Ret Tryz.prog 32 #[.string s] w fun v w' => v = .bool (keyB s) ∧ Below w.heap.size w w' := by
 refine ret_of_vc Tryz.func32 rfl mixed (by kernel_rfl) ?_
 have hk : keyB s = (decide (1 ≤ s.size) && decide (s.size ≤ 32) && wordB 0 (bys s) && !(resv.any fun r => sEq r s)) := rfl
 obtain ⟨kb, hkb⟩ : ∃ b, b = keyB s := ⟨_, rfl⟩
 rw [← hkb] at hk ⊢
 conv=>whnf
 refine vcall (by kernel_rfl) (word_ok s w hs) ?_
 rintro _ w1 ⟨rfl, rfl⟩
 obtain ⟨wb, hwb⟩ : ∃ b, b = wordB 0 (bys s) := ⟨_, rfl⟩
 rw [← hwb] at hk ⊢
 conv=>whnf
 refine vif_split (fun h1 => ?_) (fun h1 => ?_)
 ·have : kb = false := by rw [hk]; cases wb <;> simp_all
  subst this
  conv=>whnf
  exact VEnd.mk ⟨rfl, Below.refl _ _⟩
 have h1 : wb = true ∧ 1 ≤ s.size := by cases wb <;> simp_all
 conv=>whnf
 refine vif_split (fun h2 => ?_) (fun h2 => ?_)
 ·have h2 : ¬ s.size ≤ 32 := by have : (s.size : Int) > 32 := of_decide_eq_true h2; omega
  have : kb = false := by rw [hk]; simp [h2]
  subst this
  conv=>whnf
  exact VEnd.mk ⟨rfl, Below.refl _ _⟩
 have h2 : s.size ≤ 32 := by have : ¬ (s.size : Int) > 32 := of_decide_eq_false h2; omega
 have hk2 : kb = !(resv.any fun r => sEq r s) := by rw [hk, h1.1]; simp [h1.2, h2]
 conv=>whnf
 refine vcall (by kernel_rfl) (reserved_ok w1) ?_
 rintro _ w2 ⟨rfl, hA, hlt2, hB⟩
 clear hk
 conv=>whnf
 refine vloop (X := Nat) ws32_1 (fun i => [(4, .int .i64 i)]) (fun i w' => i ≤ 46 ∧ w' = w2 ∧ (resv.any fun r => sEq r s) = (resv.drop i).any fun r => sEq r s) (fun i => 46 - i) 0 (by kernel_rfl)
  ?_ ⟨Nat.zero_le _, rfl, rfl⟩ ?_
 ·exact ⟨rfl, trivial⟩
 rintro i w3 j ⟨hi, rfl, hp⟩
 conv=>whnf
 refine vif_split (fun hlt => ?_) (fun hge => ?_)
 ·have hlt : i < 46 := by have := of_decide_eq_true hlt; omega
  have hil : i < resv.length := by rw [resv_len]; exact hlt
  rw [any_take _ _ i hil] at hp
  have hg := svals_get hil
  conv=>whnf
  (repeat (first | (refine VReq.mk (by first | decide | omega) ?_; conv=>whnf) | (refine VPend.mk rfl ?_; conv=>whnf) | (refine VNext.keep rfl ?_; conv=>whnf) | (refine vs_slI1 _ rfl rfl rfl (by assumption) ?_; conv=>whnf) | (refine vs_slI _ rfl rfl rfl (by assumption) ?_; conv=>whnf) | (refine vs_arr1 _ rfl rfl rfl (by assumption) ?_; conv=>whnf) | (refine vs_loadF (by with_reducible assumption) (by assumption) rfl rfl ?_; conv=>whnf) | (refine vs_loadF0 (by with_reducible assumption) (by assumption) rfl rfl ?_; conv=>whnf) | (refine vs_loadI (by with_reducible assumption) (by assumption) rfl ?_; conv=>whnf) | (refine vs_loadB rfl (by with_reducible assumption) (by assumption) ?_; conv=>whnf)))
  apply vif_split <;> intro h
  ·have : kb = false := by rw [hk2, hp, h]; rfl
   subst this
   conv=>whnf
   exact VEnd.mk ⟨rfl, hB⟩
  ·rw [h, Bool.false_or] at hp
   conv=>whnf
   refine VBack.mk ⟨_, ?_, (i + 1), rfl, ?_, ?_⟩
   ·show 46 - (i + 1) < 46 - i; omega
   ·exact ⟨intEq (incr (by omega)), trivial⟩
   ·exact ⟨hlt, rfl, hp⟩
 ·have hge : ¬ i < 46 := by have := of_decide_eq_false hge; omega
  obtain rfl : i = 46 := by omega
  rw [List.drop_of_length_le (by rw [resv_len]; exact Nat.le_refl _)] at hp
  have : kb = true := by rw [hk2, hp]; rfl
  subst this
  conv=>whnf
  exact VEnd.mk ⟨rfl, hB⟩
end
section
def spT (c : Nat) : Int := if (9 ≤ c ∧ c ≤ 13) ∨ c = 32 then 1 else 0
def Asc (w : World) : Prop := 0 < w.heap.size ∧ ∀ c, c < 256 → w.cell? ⟨0, c, none⟩ = some (.int .u8 (spT c))
theorem Asc.below {w w' : World} (h : Asc w) (hB : Below w.heap.size w w') : Asc w' := ⟨Nat.lt_of_lt_of_le h.1 hB.size, fun c hc => by rw [hB.cell (p := ⟨0, c, none⟩) h.1]; exact h.2 c hc⟩
theorem vs_xorU {P : Program} {w : World} {K : Value → World → Prop} {k : IntKind} {n : Int} (c : K (.int k (bitsOp .xor k (if k.signed then -1 else k.max) n)) w) : VSem P (Op.unary .xor (.int k n)) w K := by
 refine vsem ?_ c
 simp [Op.unary, Op.intBits, bitsOp]
theorem vs_sliceSlo {P : Program} {w : World} {K : Value → World → Prop} {t : TypeId} {s : ByteArray} {kl : IntKind} {lo : Int} (a : Nat) (ha : lo = a) (hu : P.underlying t = some .string) (h : a ≤ s.size)
  (c : K (.string (s.extract a s.size)) w) : VSem P (Instr.sliceAt t (.string s) (some (.int kl lo)) none none) w K := by
 refine vsem ?_ c
 subst ha
 unfold Instr.sliceAt
 rw [Sem.run_bind, run_under hu]
 simp only [Result.andThen_ok]
 unfold Instr.slice
 rw [Sem.run_bind, run_under hu]
 have h1 : (0 : Int) ≤ a ∧ (a : Int) ≤ s.size := ⟨by omega, by omega⟩
 simp [Instr.sliceBounds, Instr.sliceBound, asIntOf, h1, h]
theorem vs_arrG {P : Program} {w : World} {K : Value → World → Prop} {t e : TypeId} {n b : Nat} {k : IntKind} {ix : Int} (m : Nat) (hm : ix = m) (hu : P.underlying t = some (.array n e)) (hs : szB P e = some 1) (h : m < n)
  (hk : K (.pointer (some ⟨b, m, none⟩)) w) : VSem P (Instr.indexAt t (.pointer (some ⟨b, 0, none⟩)) (.int k ix)) w K :=
 vs_arr1 m hu hs hm h (by rw [Nat.zero_add]; exact hk)
def c1 (l : List UInt8) : Nat → Int × Int × Int
 | 0 => (0, 1, 0)
 | i + 1 => (IntKind.i64.wrap ((c1 l i).1 + bitsOp .and .i64 (c1 l i).2.1 (bitsOp .xor .i64 (-1) (IntKind.i64.wrap (spT (l.getD i 0).toNat)))), IntKind.i64.wrap (spT (l.getD i 0).toNat), bitsOp .or .u8 (c1 l i).2.2 ((l.getD i 0).toNat : Nat))
theorem c1_succ (l : List UInt8) (i : Nat) : c1 l (i + 1) = (IntKind.i64.wrap ((c1 l i).1 + bitsOp .and .i64 (c1 l i).2.1 (bitsOp .xor .i64 (-1) (IntKind.i64.wrap (spT (l.getD i 0).toNat)))), IntKind.i64.wrap (spT (l.getD i 0).toNat), bitsOp .or .u8 (c1 l i).2.2 ((l.getD i 0).toNat : Nat)) := rfl
def wl (s : ByteArray) : Nat → List ByteArray × Nat
 | 0 => ([], 0)
 | i + 1 => if spT ((bys s).getD i 0).toNat = 0 then wl s i else ((wl s i).1 ++ [s.extract (wl s i).2 i], i + 1)
theorem wl_succ (s : ByteArray) (i : Nat) : wl s (i + 1) = if spT ((bys s).getD i 0).toNat = 0 then wl s i else ((wl s i).1 ++ [s.extract (wl s i).2 i], i + 1) := rfl
theorem wl_le (s : ByteArray) (i : Nat) : (wl s i).2 ≤ i := by
 induction i with
 | zero => exact Nat.le_refl _
 | succ i ih => rw [wl_succ]; split; exact Nat.le_succ_of_le ih; exact Nat.le_refl _
theorem wl_mono (s : ByteArray) (i : Nat) : ∀ d, (wl s i).1.length ≤ (wl s (i + d)).1.length := by
 intro d
 induction d with
 | zero => exact Nat.le_refl _
 | succ d ih => rw [← Nat.add_assoc, wl_succ]; split; exact ih; simp only [List.length_append, List.length_cons, List.length_nil]; omega
structure Neat (s : ByteArray) : Prop where
 size : s.size ≤ 1000000
 first : 0 < s.size → spT ((bys s).getD 0 0).toNat = 0
 next : ∀ i, i < s.size → spT ((bys s).getD i 0).toNat ≠ 0 → i + 1 < s.size ∧ spT ((bys s).getD (i + 1) 0).toNat = 0
 plain : ¬ (c1 (bys s) s.size).2.2 ≥ 128
 count : (c1 (bys s) s.size).1 = ((wl s s.size).1.length + 1 : Nat)
 some : 0 < s.size
 ends : (wl s s.size).2 < s.size
theorem spT_01 (c : Nat) : spT c = 0 ∨ spT c = 1 := by unfold spT; split; exact .inr rfl; exact .inl rfl
attribute [local irreducible] c1 wl spT
theorem fields_ok (s : ByteArray) (w : World) (hs : Neat s) (hA : Asc w) :
  Ret Tryz.prog 58 #[.string s] w fun v w' => ∃ b, v = .slice (some ⟨b, 0, none⟩) ((wl s s.size).1.length + 1) ((wl s s.size).1.length + 1) ∧ At w' b 0 (svals ((wl s s.size).1 ++ [s.extract (wl s s.size).2 s.size])) ∧ b < w'.heap.size ∧ Below w.heap.size w w' := by
 refine ret_of_vc Tryz.func58 rfl mixed (by kernel_rfl) ?_
 have hl := bys_len s
 have hsz := hs.size
 have hby : ∀ i (h : i < s.size), (bys s).getD i 0 = s[i] := fun i h => by
  rw [List.getD_eq_getElem?_getD, List.getElem?_eq_getElem (by rw [hl]; exact h)]; simp; rfl
 conv=>whnf
 refine vloop (X := Nat) ws58_1 (fun i => [(6, .int .i64 i), (3, .int .i64 (c1 (bys s) i).1), (4, .int .i64 (c1 (bys s) i).2.1), (5, .int .u8 (c1 (bys s) i).2.2)]) (fun i w' => i ≤ s.size ∧ w' = w) (fun i => s.size - i) 0 (by kernel_rfl)
  ?_ ⟨Nat.zero_le _, rfl⟩ ?_
 ·exact ⟨rfl, by unfold c1; rfl, by unfold c1; rfl, by unfold c1; rfl, trivial⟩
 rintro i w1 j ⟨hi, rfl⟩
 conv=>whnf
 refine vif_split (fun hlt => ?_) (fun hge => ?_)
 ·have hlt : i < s.size := by have := of_decide_eq_true hlt; omega
  have hcb : s[i].toNat < 256 := s[i].toNat_lt
  have hcell := hA.2 s[i].toNat hcb
  have hsc := c1_succ (bys s) i
  rw [hby i hlt] at hsc
  conv=>whnf
  refine vs_ixS i rfl rfl hlt ?_
  conv=>whnf
  refine vs_arrG s[i].toNat rfl rfl rfl hcb ?_
  conv=>whnf
  refine vs_load1 rfl hcell ?_
  conv=>whnf
  refine vs_xorU ?_
  conv=>whnf
  refine VBack.mk ⟨_, ?_, (i + 1), rfl, ?_, ?_⟩
  ·show s.size - (i + 1) < s.size - i; omega
  ·exact ⟨intEq (incr (by omega)), intEq (by rw [hsc]; rfl), intEq (by rw [hsc]), intEq (by rw [hsc]), trivial⟩
  ·exact ⟨hlt, rfl⟩
 have hge : ¬ i < s.size := by have := of_decide_eq_false hge; omega
 obtain rfl : i = s.size := by omega
 have hpl := hs.plain
 have hcn := hs.count
 conv=>whnf
 refine vif_false (by simpa using hpl) ?_
 rw [hcn]
 have hW : (wl s s.size).1.length ≤ s.size := by
  have : ∀ i, (wl s i).1.length ≤ i := fun i => by
   induction i with
   | zero => unfold wl; exact Nat.le_refl _
   | succ i ih => rw [wl_succ]; split; exact Nat.le_succ_of_le ih; simp only [List.length_append, List.length_cons, List.length_nil]; omega
  exact this _
 obtain ⟨N, hN⟩ : ∃ N, N = (wl s s.size).1.length + 1 := ⟨_, rfl⟩
 rw [← hN]
 conv=>whnf
 refine vs_make (n := N) (by_ := 16) (sz := 1) (zs := [.string ⟨#[]⟩]) rfl rfl rfl rfl rfl rfl rfl rfl (by omega) (by unfold maxLen; omega) ?_
 intro w2 hw2 hb2
 rw [rep_one] at hb2
 have hB2 : Below w1.heap.size w1 w2 := by rw [hw2]; exact balloc (Below.refl _ _) (Nat.le_refl _) _
 clear hw2
 conv=>whnf
 have hAs : ∀ w', Below w1.heap.size w1 w' → ∀ c, c < 256 → w'.cell? ⟨0, c, none⟩ = some (.int .u8 (spT c)) := fun w' hB c hc => (hA.below hB).2 c hc
 have h0s := hs.some
 have h0 := hs.first h0s
 rw [hby 0 h0s] at h0
 refine vloop (X := Unit) ws58_2 (fun _ => [(12, .int .i64 ((0 : Nat) : Int))]) (fun _ w' => w' = w2) (fun _ => 0) () (by kernel_rfl) ?_ rfl ?_
 ·exact ⟨rfl, trivial⟩
 rintro _ w3 j3 rfl
 conv=>whnf
 refine vif_true (by simpa using h0s) ?_
 conv=>whnf
 refine vs_ixS 0 rfl rfl h0s ?_
 conv=>whnf
 refine vs_arrG s[0].toNat rfl rfl rfl s[0].toNat_lt ?_
 conv=>whnf
 refine vs_load1 rfl (hAs _ hB2 _ s[0].toNat_lt) ?_
 rw [h0]
 conv=>whnf
 refine vloop (X := Nat × List Value) ws58_3 (fun x => [(12, .int .i64 x.1), (10, .int .i64 ((wl s x.1).1.length : Nat)), (11, .int .i64 ((wl s x.1).2 : Nat))]) (fun x w' => x.1 ≤ s.size ∧ Below w1.heap.size w1 w' ∧ Blk w' w1.heap.size x.2 9 ∧ x.2.length = N ∧ ∃ t, x.2 = svals (wl s x.1).1 ++ t) (fun x => s.size - x.1) (0, List.replicate N (.string ⟨#[]⟩)) (by kernel_rfl)
  ?_ ⟨Nat.zero_le _, hB2, hb2, by simp, _, by unfold wl; rfl⟩ ?_
 ·exact ⟨rfl, by unfold wl; rfl, by unfold wl; rfl, trivial⟩
 clear hb2 hB2
 rintro ⟨i, cs⟩ w4 j4 ⟨hi, hB4, hb4, hcl, t, hct⟩
 simp only at hi hb4 hcl hct ⊢
 have hws := wl_succ s i
 have hle := wl_le s i
 conv=>whnf
 refine vif_split (fun hlt => ?_) (fun hge => ?_)
 ·have hlt : i < s.size := by have := of_decide_eq_true hlt; omega
  rw [hby i hlt] at hws
  have hcb : s[i].toNat < 256 := s[i].toNat_lt
  conv=>whnf
  refine vs_ixS i rfl rfl hlt ?_
  conv=>whnf
  refine vs_arrG s[i].toNat rfl rfl rfl hcb ?_
  conv=>whnf
  refine vs_load1 rfl (hAs _ hB4 _ hcb) ?_
  conv=>whnf
  rcases spT_01 s[i].toNat with h1 | h1
  ·rw [h1]
   rw [if_pos h1] at hws
   conv=>whnf
   refine VBack.mk ⟨_, ?_, (i + 1, cs), rfl, ?_, ?_⟩
   ·show s.size - (i + 1) < s.size - i; omega
   ·exact ⟨intEq (incr (by omega)), by show _ = Value.int .i64 ((wl s (i + 1)).1.length : Nat); rw [hws]; rfl, by show _ = Value.int .i64 ((wl s (i + 1)).2 : Nat); rw [hws]; rfl, trivial⟩
   ·exact ⟨hlt, hB4, hb4, hcl, t, by rw [hws]; exact hct⟩
  ·rw [h1]
   rw [if_neg (by rw [h1]; decide)] at hws
   obtain ⟨hn1, hn2⟩ := hs.next i hlt (by rw [hby i hlt, h1]; decide)
   rw [hby (i + 1) hn1] at hn2
   have hm := wl_mono s (i + 1) (s.size - (i + 1))
   rw [show i + 1 + (s.size - (i + 1)) = s.size by omega, hws] at hm
   simp only [List.length_append, List.length_cons, List.length_nil] at hm
   obtain ⟨m, hmm⟩ : ∃ m, m = (wl s i).1.length := ⟨_, rfl⟩
   rw [← hmm] at hm ⊢
   have hmN : m < N := by omega
   conv=>whnf
   refine vs_sliceS (wl s i).2 i rfl rfl rfl hle (by omega) ?_
   conv=>whnf
   refine vs_slI1 m rfl rfl rfl hmN ?_
   conv=>whnf
   refine vs_storeP hb4 rfl rfl (by rw [hcl]; omega) ?_
   intro w5 hO5 hb5
   rw [Nat.zero_add] at hb5
   have hB5 := hB4.trans (hO5.below (Nat.le_refl _))
   have hset : ∃ t', cs.set m (.string (s.extract (wl s i).2 i)) = svals (wl s (i + 1)).1 ++ t' := by
    rw [hct, hws]
    have hml : (svals (wl s i).1).length = m := by rw [hmm]; simp [svals]
    rw [List.set_append_right _ _ (by omega), hml, Nat.sub_self]
    cases t with
    | nil => rw [hct, List.append_nil, hml] at hcl; omega
    | cons v t => exact ⟨t, by simp [svals]⟩
   clear hb4 hO5
   conv=>whnf
   have e1 : IntKind.i64.wrap ((i : Int) + 1) = ((i + 1 : Nat) : Int) := incr (by omega)
   have e2 : IntKind.i64.wrap ((m : Int) + 1) = ((m + 1 : Nat) : Int) := incr (by omega)
   refine vloop (X := Unit) ws58_4 (fun _ => [(12, .int .i64 ((i + 1 : Nat) : Int))]) (fun _ w' => w' = w5) (fun _ => 0) () (by kernel_rfl) ?_ rfl ?_
   ·exact ⟨intEq e1, trivial⟩
   rintro _ w6 j6 rfl
   conv=>whnf
   refine vif_true (by simp only [decide_eq_true_eq]; omega) ?_
   conv=>whnf
   refine vs_ixS (i + 1) rfl rfl hn1 ?_
   conv=>whnf
   refine vs_arrG s[i + 1].toNat rfl rfl rfl s[i + 1].toNat_lt ?_
   conv=>whnf
   refine vs_load1 rfl (hAs _ hB5 _ s[i + 1].toNat_lt) ?_
   rw [hn2]
   conv=>whnf
   obtain ⟨t', ht'⟩ := hset
   refine VBack.mk ⟨_, ?_, (i + 1, cs.set m (.string (s.extract (wl s i).2 i))), rfl, ?_, ?_⟩
   ·show s.size - (i + 1) < s.size - i; omega
   ·refine ⟨rfl, ?_, ?_, trivial⟩
    ·show Value.int .i64 (IntKind.i64.wrap ((m : Int) + 1)) = Value.int .i64 ((wl s (i + 1)).1.length : Nat)
     rw [e2, hws, List.length_append, ← hmm]; rfl
    ·show _ = Value.int .i64 ((wl s (i + 1)).2 : Nat)
     rw [hws]; rfl
   ·exact ⟨hlt, hB5, hb5, by show (cs.set m _).length = N; rw [List.length_set]; exact hcl, t', ht'⟩
 have hge : ¬ i < s.size := by have := of_decide_eq_false hge; omega
 obtain rfl : i = s.size := by omega
 have hend := hs.ends
 obtain ⟨m, hmm⟩ : ∃ m, m = (wl s s.size).1.length := ⟨_, rfl⟩
 rw [← hmm]
 have hmN : m < N := by omega
 conv=>whnf
 refine vif_true (by simp only [decide_eq_true_eq]; omega) ?_
 conv=>whnf
 refine vs_sliceSlo (wl s s.size).2 rfl rfl hle ?_
 conv=>whnf
 refine vs_slI1 m rfl rfl rfl hmN ?_
 conv=>whnf
 refine vs_storeP hb4 rfl rfl (by rw [hcl]; omega) ?_
 intro w5 hO5 hb5
 rw [Nat.zero_add] at hb5
 have hfin : cs.set m (.string (s.extract (wl s s.size).2 s.size)) = svals ((wl s s.size).1 ++ [s.extract (wl s s.size).2 s.size]) := by
  have hml : (svals (wl s s.size).1).length = m := by rw [hmm]; simp [svals]
  rw [hct] at hcl ⊢
  rw [List.set_append_right _ _ (by omega), hml, Nat.sub_self]
  rw [List.length_append, hml] at hcl
  match t, hcl with
  | [v], _ => simp [svals]
  | [], h => simp at h; omega
  | _ :: _ :: _, h => simp at h; omega
 rw [hfin] at hb5
 conv=>whnf
 exact VEnd.mk ⟨w1.heap.size, by rw [hN]; rfl, hb5.at, hb5.lt, hB4.trans (hO5.below (Nat.le_refl _))⟩
end
section
def okW (s : ByteArray) : Bool :=
 decide (s.size ≤ 1000000) && decide (0 < s.size) && decide (spT ((bys s).getD 0 0).toNat = 0) &&
 ((List.range s.size).all fun i => decide (spT ((bys s).getD i 0).toNat = 0) || (decide (i + 1 < s.size) && decide (spT ((bys s).getD (i + 1) 0).toNat = 0))) &&
 decide (¬ (c1 (bys s) s.size).2.2 ≥ 128) && decide ((c1 (bys s) s.size).1 = ((wl s s.size).1.length + 1 : Nat)) && decide ((wl s s.size).2 < s.size) &&
 (((wl s s.size).1 ++ [s.extract (wl s s.size).2 s.size]).map bys == resv.map bys)
theorem bys_inj {a b : ByteArray} (h : bys a = bys b) : a = b := by
 obtain ⟨⟨x⟩⟩ := a
 obtain ⟨⟨y⟩⟩ := b
 have : x = y := h
 rw [this]
theorem map_bys_inj : ∀ (l m : List ByteArray), l.map bys = m.map bys → l = m := by
 intro l
 induction l with
 | nil => intro m h; cases m with
  | nil => rfl
  | cons _ _ => simp at h
 | cons a l ih => intro m h; cases m with
  | nil => simp at h
  | cons b m =>
   rw [List.map_cons, List.map_cons] at h
   injection h with h1 h2
   rw [bys_inj h1, ih m h2]
theorem okW_neat {s : ByteArray} (h : okW s = true) : Neat s ∧ (wl s s.size).1 ++ [s.extract (wl s s.size).2 s.size] = resv := by
 unfold okW at h
 simp only [Bool.and_eq_true, decide_eq_true_eq] at h
 obtain ⟨⟨⟨⟨⟨⟨⟨h1, h2⟩, h3⟩, h4⟩, h5⟩, h6⟩, h7⟩, h8⟩ := h
 refine ⟨⟨h1, fun _ => h3, fun i hi hne => ?_, h5, h6, h2, h7⟩, map_bys_inj _ _ (by simpa using h8)⟩
 have := List.all_eq_true.1 h4 i (by simpa using hi)
 simp only [Bool.or_eq_true, Bool.and_eq_true, decide_eq_true_eq] at this
 rcases this with h | h
 ·exact absurd h hne
 ·exact h
theorem fields_resv (s : ByteArray) (w : World) (hs : okW s = true) (hA : Asc w) :
  Ret Tryz.prog 58 #[.string s] w fun v w' => ∃ b, v = .slice (some ⟨b, 0, none⟩) 46 46 ∧ At w' b 0 (svals resv) ∧ b < w'.heap.size ∧ Below w.heap.size w w' := by
 obtain ⟨hn, hr⟩ := okW_neat hs
 refine (fields_ok s w hn hA).mono ?_
 rintro _ w' ⟨b, rfl, hat, hb⟩
 have hl : (wl s s.size).1.length + 1 = 46 := by
  have := congrArg List.length hr
  rw [resv_len] at this
  simpa using this
 rw [hr] at hat
 exact ⟨b, by rw [hl], hat, hb⟩
attribute [local irreducible] resv okW
theorem key1_ok (s : ByteArray) (w : World) (hA : Asc w) (hs : s.size ≤ 140737488355328) :
  Ret Tryz.prog 30 #[.string s] w fun v w' => v = .bool (keyB s) ∧ Below w.heap.size w w' := by
 refine ret_of_vc Tryz.func30 rfl mixed (by kernel_rfl) ?_
 have hk : keyB s = (decide (1 ≤ s.size) && decide (s.size ≤ 32) && wordB 0 (bys s) && !(resv.any fun r => sEq r s)) := rfl
 obtain ⟨kb, hkb⟩ : ∃ b, b = keyB s := ⟨_, rfl⟩
 rw [← hkb] at hk ⊢
 have hl := bys_len s
 conv=>whnf
 refine vif_split (fun h1 => ?_) (fun h1 => ?_)
 ·have h1 : ¬ 1 ≤ s.size := by have : (s.size : Int) < 1 := of_decide_eq_true h1; omega
  have : kb = false := by rw [hk]; simp [h1]
  subst this
  conv=>whnf
  exact VEnd.mk ⟨rfl, Below.refl _ _⟩
 have h1 : 1 ≤ s.size := by have : ¬ (s.size : Int) < 1 := of_decide_eq_false h1; omega
 conv=>whnf
 refine vif_split (fun h2 => ?_) (fun h2 => ?_)
 ·have h2 : ¬ s.size ≤ 32 := by have : (s.size : Int) > 32 := of_decide_eq_true h2; omega
  have : kb = false := by rw [hk]; simp [h2]
  subst this
  conv=>whnf
  exact VEnd.mk ⟨rfl, Below.refl _ _⟩
 have h2 : s.size ≤ 32 := by have : ¬ (s.size : Int) > 32 := of_decide_eq_false h2; omega
 have hk2 : kb = (wordB 0 (bys s) && !(resv.any fun r => sEq r s)) := by rw [hk]; simp [h1, h2]
 clear hk
 conv=>whnf
 refine vs_rangeS rfl ?_
 intro w1 hB1 hI1
 conv=>whnf
 refine vloop (X := Nat) ws30_1 (fun _ => []) (fun i w' => i ≤ s.size ∧ Below w.heap.size w w' ∧ Itr w' w.heap.size s i ∧ wordB 0 (bys s) = wordB i ((bys s).drop i)) (fun i => s.size - i) 0 (by kernel_rfl)
  ?_ ⟨Nat.zero_le _, hB1, hI1, rfl⟩ ?_
 ·exact trivial
 rintro i w2 j ⟨hi, hB2, hI2, hp⟩
 clear hI1 hB1
 conv=>whnf
 by_cases hlt : i < s.size
 ·have hst := wordB_step (bys s) i (by omega)
  have hc : (bys s)[i]'(by omega) = s[i] := by simp; rfl
  rw [hc] at hst
  have hcb : s[i].toNat < 256 := s[i].toNat_lt
  rw [hst] at hp
  refine vs_next hI2 hlt (fun hpl w3 hO3 hI3 => ?_) (fun hnp w3 c q hO3 _ hc2 => ?_)
  ·obtain ⟨c, hcc⟩ : ∃ c, c = s[i].toNat := ⟨_, rfl⟩
   have hno := okB_not i c
   have hyes := okB_iff i c
   rw [← hcc] at hp hpl ⊢
   have hB3 := hB2.trans (hO3.below (Nat.le_refl _))
   have e0 : okB i c = false → kb = false := fun h => by rw [hk2, hp, h]; rfl
   have e1 : okB i c = true → wordB 0 (bys s) = wordB (i + 1) ((bys s).drop (i + 1)) := fun h => by rw [hp, h]; rfl
   clear hst hc hcb hI2 hO3 hp
   conv=>whnf
   (repeat' (apply vif_split <;> intro h; all_goals (conv=>whnf)))
   all_goals first
    | exact VEnd.mk ⟨congrArg Value.bool (e0 (hno.2 (by (try simp only [cond_true, cond_false, Bool.not_eq_true', Bool.not_eq_false', decide_eq_true_eq, decide_eq_false_iff_not, beq_iff_eq, bne_iff_ne, beq_eq_false_iff_ne, bne_eq_false_iff_eq, ne_eq, Bool.not_eq_eq_eq_not, Bool.not_true, Bool.not_false, Bool.false_eq_true, Bool.true_eq_false] at *) <;> omega))).symm, hB3⟩
    | exact VBack.mk ⟨_, (show s.size - (i + 1) < s.size - i by omega), i + 1, rfl, trivial, hlt, hB3, hI3, e1 (hyes.2 (by (try simp only [cond_true, cond_false, Bool.not_eq_true', Bool.not_eq_false', decide_eq_true_eq, decide_eq_false_iff_not, beq_iff_eq, bne_iff_ne, beq_eq_false_iff_ne, bne_eq_false_iff_eq, ne_eq, Bool.not_eq_eq_eq_not, Bool.not_true, Bool.not_false, Bool.false_eq_true, Bool.true_eq_false] at *) <;> omega))⟩
  ·have hB3 := hB2.trans (hO3.below (Nat.le_refl _))
   have e0 : kb = false := by
    have : okB i s[i].toNat = false := (okB_not i _).2 (by omega)
    rw [hk2, hp, this]; rfl
   clear hst hc hcb hI2 hO3 hp
   subst e0
   conv=>whnf
   (repeat' (apply vif_split <;> intro h; all_goals (conv=>whnf)))
   all_goals first
    | exact VEnd.mk ⟨rfl, hB3⟩
    | (exfalso; clear hk2; exact (by (try simp only [cond_true, cond_false, Bool.not_eq_true', Bool.not_eq_false', decide_eq_true_eq, decide_eq_false_iff_not, beq_iff_eq, bne_iff_ne, beq_eq_false_iff_ne, bne_eq_false_iff_eq, ne_eq, Bool.not_eq_eq_eq_not, Bool.not_true, Bool.not_false, Bool.false_eq_true, Bool.true_eq_false] at *) <;> omega))
 ·obtain rfl : i = s.size := by omega
  rw [List.drop_of_length_le (by omega)] at hp
  have hp2 : wordB 0 (bys s) = true := hp
  have hk3 : kb = !(resv.any fun r => sEq r s) := by rw [hk2, hp2]; rfl
  refine vs_nextEnd hI2 (Nat.le_refl _) ?_
  conv=>whnf
  refine vcall (by kernel_rfl) (fields_resv _ w2 (by kernel_rfl) (hA.below hB2)) ?_
  rintro _ w3 ⟨b, rfl, hA3, hb3, hB3⟩
  have hB3' := hB2.trans (hB3.mono hB2.size)
  clear hB3 hI2 hk2
  conv=>whnf
  refine vloop (X := Nat) ws30_2 (fun i => [(52, .int .i64 i)]) (fun i w' => i ≤ 46 ∧ w' = w3 ∧ (resv.any fun r => sEq r s) = (resv.drop i).any fun r => sEq r s) (fun i => 46 - i) 0 (by kernel_rfl)
   ?_ ⟨Nat.zero_le _, rfl, rfl⟩ ?_
  ·exact ⟨rfl, trivial⟩
  rintro i w4 j ⟨hi, rfl, hp⟩
  conv=>whnf
  refine vif_split (fun hlt => ?_) (fun hge => ?_)
  ·have hlt : i < 46 := by have := of_decide_eq_true hlt; omega
   have hil : i < resv.length := by rw [resv_len]; exact hlt
   rw [any_take _ _ i hil] at hp
   have hg := svals_get hil
   conv=>whnf
   (repeat (first | (refine VReq.mk (by first | decide | omega) ?_; conv=>whnf) | (refine VPend.mk rfl ?_; conv=>whnf) | (refine VNext.keep rfl ?_; conv=>whnf) | (refine vs_slI1 _ rfl rfl rfl (by assumption) ?_; conv=>whnf) | (refine vs_slI _ rfl rfl rfl (by assumption) ?_; conv=>whnf) | (refine vs_arr1 _ rfl rfl rfl (by assumption) ?_; conv=>whnf) | (refine vs_loadF (by with_reducible assumption) (by assumption) rfl rfl ?_; conv=>whnf) | (refine vs_loadF0 (by with_reducible assumption) (by assumption) rfl rfl ?_; conv=>whnf) | (refine vs_loadI (by with_reducible assumption) (by assumption) rfl ?_; conv=>whnf) | (refine vs_loadB rfl (by with_reducible assumption) (by assumption) ?_; conv=>whnf)))
   apply vif_split <;> intro h
   ·have : kb = false := by rw [hk3, hp, h]; rfl
    subst this
    conv=>whnf
    exact VEnd.mk ⟨rfl, hB3'⟩
   ·rw [h, Bool.false_or] at hp
    conv=>whnf
    refine VBack.mk ⟨_, ?_, (i + 1), rfl, ?_, ?_⟩
    ·show 46 - (i + 1) < 46 - i; omega
    ·exact ⟨intEq (incr (by omega)), trivial⟩
    ·exact ⟨hlt, rfl, hp⟩
  ·have hge : ¬ i < 46 := by have := of_decide_eq_false hge; omega
   obtain rfl : i = 46 := by omega
   rw [List.drop_of_length_le (by rw [resv_len]; exact Nat.le_refl _)] at hp
   have : kb = true := by rw [hk3, hp]; rfl
   subst this
   conv=>whnf
   exact VEnd.mk ⟨rfl, hB3'⟩
end
end Go.Proofs.YtgfgndaoocfpdaaGreatDoor.Ky

/- How lists of numbers are read again, in plain Lean: what is known at each step if the bytes are an encoding. No condition. -/
import Derived.Test.YtmhpfadbmpipkaaCl5
set_option linter.unusedVariables false
set_option linter.unusedSimpArgs false
namespace Go.Proofs.Ytmhpfadbmpipkaa.Cl

/-- what is known of a reading if the bytes are an encoding -/
def Pr (b : By) (n : Nat) (body : Li → By) (Q : Li → By → Prop) : Prop := ∀ l0 r, AllI l0 → l0.length = n → b = body l0 ++ r → Q l0 r
theorem Pr.mono {b : By} {n : Nat} {body : Li → By} {Q Q' : Li → By → Prop} (h : Pr b n body Q) (k : ∀ l0 r, AllI l0 → l0.length = n → Q l0 r → Q' l0 r) : Pr b n body Q' :=
  fun l0 r h1 h2 h3 => k l0 r h1 h2 (h l0 r h1 h2 h3)
theorem Pr.start (b : By) (n : Nat) (body : Li → By) : Pr b n body fun l0 r => b = body l0 ++ r := fun _ _ _ _ h => h
/-- what a reading of a body answers -/
def DecR (body : Li → By) (b : By) (n : Nat) (l : Li) (ok : Bool) : Prop := AllI l ∧ l.length ≤ n ∧ Pr b n body fun l0 _ => ok = true ∧ l = l0
theorem rd1 {y : Int} {z b : By} {e : Int} (hy : I64 y) (he : e = 0) (h : b = num y ++ z) : (rnT b e).1 = y ∧ (rnT b e).2.2 = 0 ∧ b.drop (rnT b e).2.1 = z := by
  subst he; subst h
  rw [rnT_num hy]
  exact ⟨rfl, rfl, List.drop_left⟩
theorem AllI.at {l : Li} {i : Nat} {x : Int} (h : AllI l) (e : l[i]? = some x) : I64 x := h x (List.mem_of_getElem? e)
theorem AllI.snoc {l : Li} {x : Int} (h : AllI l) (hx : I64 x) : AllI (l ++ [x]) := fun y hy => by
  rcases List.mem_append.1 hy with e | e
  · exact h y e
  · rw [List.mem_singleton.1 e]; exact hx
theorem AllI.app {l m : Li} (h : AllI l) (hm : AllI m) : AllI (l ++ m) := fun y hy => (List.mem_append.1 hy).elim (h y) (hm y)
theorem AllI.nil : AllI [] := fun _ h => absurd h (by simp)
theorem AllI.rep {x : Int} (hx : I64 x) (k : Nat) : AllI (List.replicate k x) := fun y hy => by rw [List.eq_of_mem_replicate hy]; exact hx
/-! numbers one after another -/
def Q1 (b' : By) (out : Li) (e : Int) (l0 : Li) (r : By) : Prop := e = 0 ∧ ∃ rest, l0 = out ++ rest ∧ b' = b1 rest ++ r
theorem Q1.start {b : By} {l0 : Li} {r : By} (h : b = b1 l0 ++ r) : Q1 b [] 0 l0 r := ⟨rfl, l0, rfl, h⟩
theorem Q1.step {b' : By} {out : Li} {e : Int} {l0 : Li} {r : By} (ha : AllI l0) (hlt : out.length < l0.length) (h : Q1 b' out e l0 r) :
    Q1 (b'.drop (rnT b' e).2.1) (out ++ [(rnT b' e).1]) (rnT b' e).2.2 l0 r := by
  obtain ⟨he, rest, h1, h2⟩ := h
  cases rest with
  | nil => rw [h1] at hlt; simp at hlt
  | cons y rest =>
    have hy : I64 y := ha y (by rw [h1]; simp)
    have := rd1 (b := b') (z := b1 rest ++ r) hy he (by rw [h2]; simp [b1])
    rw [this.1, this.2.1, this.2.2]
    exact ⟨rfl, rest, by rw [h1]; simp, rfl⟩
theorem Q1.fin {b' : By} {out : Li} {e : Int} {l0 : Li} {r : By} (hlen : e = 0 → out.length = l0.length) (h : Q1 b' out e l0 r) : e = 0 ∧ out = l0 ∧ b' = r := by
  obtain ⟨he, rest, h1, h2⟩ := h
  have := hlen he
  have hr : rest = [] := by
    rw [h1, List.length_append] at this
    exact List.eq_nil_of_length_eq_zero (by omega)
  subst hr
  exact ⟨he, by rw [h1]; simp, by rw [h2]; simp [b1]⟩
/-! steps -/
def dl : Int → Li → Li
  | _, [] => []
  | p, x :: r => w64 (x - p) :: dl x r
theorem st_dl (l : Li) : ∀ p, st p l = b1 (dl p l) := by
  induction l with
  | nil => intro p; rfl
  | cons x r ih => intro p; simp only [st, dl, b1, List.flatMap_cons]; rw [ih x]; rfl
theorem dl_len (l : Li) : ∀ p, (dl p l).length = l.length := by
  induction l with
  | nil => intro p; rfl
  | cons x r ih => intro p; simp [dl, ih]
theorem dl_all (l : Li) : ∀ p, AllI (dl p l) := by
  induction l with
  | nil => intro p; exact AllI.nil
  | cons x r ih => intro p y hy; rcases List.mem_cons.1 hy with e | e
                   · rw [e]; exact w64_i _
                   · exact ih x y e
/-- sums -/
def sm : Int → Li → Li
  | _, [] => []
  | p, y :: r => w64 (p + y) :: sm (w64 (p + y)) r
theorem w64_back {p x : Int} (h : I64 x) : w64 (p + w64 (x - p)) = x := by simp only [w64_of]; unfold I64 at h; omega
theorem sm_dl (l : Li) : ∀ p, AllI l → sm p (dl p l) = l := by
  induction l with
  | nil => intro p _; rfl
  | cons x r ih =>
    intro p h
    have hx : I64 x := h x List.mem_cons_self
    simp only [dl, sm, w64_back hx]
    rw [ih x fun y hy => h y (List.mem_cons_of_mem _ hy)]
theorem sm_len (d : Li) : ∀ p, (sm p d).length = d.length := by
  induction d with
  | nil => intro p; rfl
  | cons x r ih => intro p; simp [sm, ih]
theorem sm_all (d : Li) : ∀ p, AllI (sm p d) := by
  induction d with
  | nil => intro p; exact AllI.nil
  | cons x r ih => intro p y hy; rcases List.mem_cons.1 hy with e | e
                   · rw [e]; exact w64_i _
                   · exact ih _ y e
theorem sm_at (d : Li) : ∀ (p : Int) (i : Nat), i + 1 < d.length → (sm p d)[i + 1]? = some (w64 ((sm p d).getD i 0 + d.getD (i + 1) 0)) := by
  induction d with
  | nil => intro p i h; simp at h
  | cons x r ih =>
    intro p i h
    cases i with
    | zero =>
      cases r with
      | nil => simp at h
      | cons y r => simp [sm]
    | succ i =>
      have := ih (w64 (p + x)) i (by simp at h ⊢; omega)
      simp only [sm, List.getElem?_cons_succ]
      rw [this]
      simp
/-! runs -/
theorem rl_split (l : Li) (h : l ≠ []) : ∃ y m t, l = List.replicate (m + 1) y ++ t ∧ rl l = (y, m + 1) :: rl t := by
  induction l with
  | nil => exact absurd rfl h
  | cons x r ih =>
    by_cases hr : r = []
    · subst hr; exact ⟨x, 0, [], rfl, rfl⟩
    · obtain ⟨y, m, t, h1, h2⟩ := ih hr
      by_cases e : x = y
      · subst e
        refine ⟨x, m + 1, t, ?_, ?_⟩
        · rw [h1, List.replicate_succ (n := m + 1)]; rfl
        · simp only [rl, h2]; simp
      · refine ⟨x, 0, r, rfl, ?_⟩
        simp only [rl, h2]
        rw [if_neg e]
def Q2 (b' : By) (out : Li) (e : Int) (l0 : Li) (r : By) : Prop := e = 0 ∧ ∃ rest, l0 = out ++ rest ∧ b' = b2 rest ++ r
theorem Q2.start {b : By} {l0 : Li} {r : By} (h : b = b2 l0 ++ r) : Q2 b [] 0 l0 r := ⟨rfl, l0, rfl, h⟩
theorem Q2.step {b' : By} {out : Li} {e : Int} {l0 : Li} {r : By} (ha : AllI l0) (hl : l0.length ≤ 9223372036854775807) (hlt : out.length < l0.length) (h : Q2 b' out e l0 r) :
    ∃ m : Nat, (rnT (b'.drop (rnT b' e).2.1) (rnT b' e).2.2).2.2 = 0 ∧ (rnT (b'.drop (rnT b' e).2.1) (rnT b' e).2.2).1 = ((m + 1 : Nat) : Int) ∧ m + 1 + out.length ≤ l0.length ∧
      Q2 ((b'.drop (rnT b' e).2.1).drop (rnT (b'.drop (rnT b' e).2.1) (rnT b' e).2.2).2.1) (out ++ List.replicate (m + 1) (rnT b' e).1) 0 l0 r := by
  obtain ⟨he, rest, h1, h2⟩ := h
  have hne : rest ≠ [] := by rintro rfl; rw [h1] at hlt; simp at hlt
  obtain ⟨y, m, t, h3, h4⟩ := rl_split rest hne
  have hy : I64 y := ha y (by rw [h1, h3]; simp)
  have hlen : m + 1 + out.length ≤ l0.length := by rw [h1, h3]; simp; omega
  have r1 := rd1 (b := b') (z := num ((m + 1 : Nat) : Int) ++ (b2 t ++ r)) hy he (by rw [h2, b2, h4]; simp [enP, b2])
  rw [r1.1, r1.2.1, r1.2.2]
  have r2 := rd1 (e := 0) (i64_nat (by omega : m + 1 ≤ 9223372036854775807)) rfl (rfl : num ((m + 1 : Nat) : Int) ++ (b2 t ++ r) = _)
  refine ⟨m, r2.2.1, r2.1, hlen, ?_⟩
  rw [r2.2.2]
  exact ⟨rfl, t, by rw [h1, h3]; simp, rfl⟩
theorem Q2.fin {b' : By} {out : Li} {e : Int} {l0 : Li} {r : By} (hlen : out.length = l0.length) (h : Q2 b' out e l0 r) : out = l0 ∧ b' = r := by
  obtain ⟨_, rest, h1, h2⟩ := h
  have hr : rest = [] := by
    rw [h1, List.length_append] at hlen
    exact List.eq_nil_of_length_eq_zero (by omega)
  subst hr
  exact ⟨by rw [h1]; simp, by rw [h2]; simp [b2, rl]⟩
/-! keys and indexes -/
def ixs (d l : Li) : By := l.flatMap fun x => num (idx d x)
/-- behind the count -/
def Q4k (k : Int) (b' : By) (keys : Li) (e : Int) (l0 : Li) (r : By) : Prop := k = (ds l0).length ∧ Q1 b' keys e (ds l0) (ixs (ds l0) l0 ++ r)
theorem Q4k.start {b : By} {n : Nat} (hn : n ≤ 512) {most em : Int} (hm : (n : Int) ≤ most) : Pr b n b4 fun l0 r => (cnT b 0 most em).2.2 = 0 ∧ Q4k (cnT b 0 most em).1 (b.drop (cnT b 0 most em).2.1) [] (cnT b 0 most em).2.2 l0 r := fun l0 r _ hl h => by
  have hd := ds_len l0
  have r1 := rd1 (b := b) (z := b1 (ds l0) ++ (ixs (ds l0) l0 ++ r)) (e := 0) (i64_nat (by omega : (ds l0).length ≤ 9223372036854775807)) rfl (by rw [h]; simp [b4, ixs])
  have e1 : (cnT b 0 most em).2.2 = 0 := by
    simp only [cnT]
    rw [r1.1, r1.2.1, if_pos rfl, if_neg (by omega), if_neg (by omega)]
  have e2 : (cnT b 0 most em).1 = (ds l0).length := by
    have : (cnT b 0 most em).1 = if (cnT b 0 most em).2.2 = 0 then (rnT b 0).1 else 0 := rfl
    rw [this, if_pos e1, r1.1]
  have e3 : (cnT b 0 most em).2.1 = (rnT b 0).2.1 := rfl
  refine ⟨e1, ?_⟩
  rw [e2, e1, e3, r1.2.2]
  exact ⟨rfl, Q1.start rfl⟩
def Q4 (keys : Li) (b' : By) (out : Li) (e : Int) (l0 : Li) (r : By) : Prop := keys = ds l0 ∧ e = 0 ∧ ∃ rest, l0 = out ++ rest ∧ b' = ixs (ds l0) rest ++ r
theorem Q4.start {k : Int} {b' : By} {keys : Li} {e : Int} {l0 : Li} {r : By} (hlen : e = 0 → (keys.length : Int) = k) (h : Q4k k b' keys e l0 r) : Q4 keys b' [] e l0 r := by
  obtain ⟨h1, h2⟩ := h
  have := h2.fin fun he => by have := hlen he; omega
  exact ⟨this.2.1, this.1, l0, rfl, this.2.2⟩
theorem Q4.step {keys : Li} {b' : By} {out : Li} {e : Int} {l0 : Li} {r : By} (hl : l0.length ≤ 512) (hlt : out.length < l0.length) (h : Q4 keys b' out e l0 r) :
    ∃ (i : Nat) (x : Int), (rnT b' e).2.2 = 0 ∧ (rnT b' e).1 = (i : Int) ∧ keys[i]? = some x ∧ Q4 keys (b'.drop (rnT b' e).2.1) (out ++ [x]) 0 l0 r := by
  obtain ⟨hk, he, rest, h1, h2⟩ := h
  cases rest with
  | nil => rw [h1] at hlt; simp at hlt
  | cons y rest =>
    have hm : y ∈ ds l0 := (ds_mem l0 y).2 (by rw [h1]; simp)
    have hi := idx_lt hm
    have hd := ds_len l0
    have r1 := rd1 (b := b') (z := ixs (ds l0) rest ++ r) (i64_nat (by omega : idx (ds l0) y ≤ 9223372036854775807)) he (by rw [h2]; simp [ixs])
    refine ⟨idx (ds l0) y, y, r1.2.1, r1.1, by rw [hk]; exact hi.2, hk, rfl, rest, by rw [h1]; simp, r1.2.2⟩
theorem Q4.fin {keys : Li} {b' : By} {out : Li} {e : Int} {l0 : Li} {r : By} (hlen : out.length = l0.length) (h : Q4 keys b' out e l0 r) : out = l0 ∧ b' = r := by
  obtain ⟨_, _, rest, h1, h2⟩ := h
  have hr : rest = [] := by
    rw [h1, List.length_append] at hlen
    exact List.eq_nil_of_length_eq_zero (by omega)
  subst hr
  exact ⟨by rw [h1]; simp, by rw [h2]; simp [ixs]⟩
/-! packed bits -/
def Q5 (least : Int) (w : Nat) (b' : By) (l0 : Li) (r : By) : Prop := least = lo l0 ∧ w = wd l0 ∧ b' = pk (bitA (lo l0) (wd l0) l0) (sz5 l0.length (wd l0)) (l0.length * wd l0) ++ r
theorem dif_lt {l : Li} (h : AllI l) {x : Int} (hx : x ∈ l) : dif (lo l) x < 2 ^ wd l := by
  have h1 := lo_le hx
  have h2 := hi_ge hx
  have h3 := h _ h1.2
  have h4 := h _ h2.2
  unfold I64 at h3 h4
  have h5 := (wid_spec 64 (dif (lo l) (hi l)) (by unfold dif; omega)).1
  refine Nat.lt_of_le_of_lt ?_ h5
  unfold dif; omega
theorem Q5.bit {least : Int} {w : Nat} {b' : By} {l0 : Li} {r : By} (h : Q5 least w b' l0 r) {i k : Nat} (hi : i < l0.length) (hk : k < w) :
    ∃ c, b'[(i * w + k) / 8]? = some c ∧ c.toNat.testBit ((i * w + k) % 8) = (dif least (l0.getD i 0)).testBit k := by
  obtain ⟨h1, h2, h3⟩ := h
  subst h2
  have hw : 0 < wd l0 := by omega
  have hat : i * wd l0 + k < l0.length * wd l0 := by
    have := Nat.mul_le_mul_right (wd l0) (show i + 1 ≤ l0.length from hi)
    rw [Nat.add_mul, Nat.one_mul] at this; omega
  have h8 : (i * wd l0 + k) / 8 < sz5 l0.length (wd l0) := by unfold sz5; omega
  refine ⟨UInt8.ofNat (byA (bitA (lo l0) (wd l0) l0) (l0.length * wd l0) ((i * wd l0 + k) / 8) 8), by rw [h3, List.getElem?_append_left (by rw [pk_len]; exact h8)]; simp only [pk, List.getElem?_map, List.getElem?_range h8, Option.map_some], ?_⟩
  have hlt := byA_lt (bitA (lo l0) (wd l0) l0) (l0.length * wd l0) ((i * wd l0 + k) / 8) 8
  rw [toNat_ofNat (by omega), byA_bit _ _ _ _ _ (by omega)]
  have e : 8 * ((i * wd l0 + k) / 8) + (i * wd l0 + k) % 8 = i * wd l0 + k := by omega
  rw [e, decide_eq_true hat, Bool.true_and, h1]
  unfold bitA
  have e1 : (i * wd l0 + k) / wd l0 = i := by rw [Nat.mul_comm, Nat.mul_add_div hw, Nat.div_eq_of_lt hk, Nat.add_zero]
  have e2 : (i * wd l0 + k) % wd l0 = k := by rw [Nat.mul_comm, Nat.mul_add_mod, Nat.mod_eq_of_lt hk]
  rw [e1, e2]
theorem bit_of (c s : Nat) : c / 2 ^ s % 2 = if c.testBit s = true then 1 else 0 := by
  rw [Nat.testBit_eq_decide_div_mod_eq]
  by_cases h : c / 2 ^ s % 2 = 1
  · simp [h]
  · have : c / 2 ^ s % 2 = 0 := by omega
    simp [this]
theorem bit_sum (x k : Nat) : x % 2 ^ (k + 1) = x % 2 ^ k + (if x.testBit k = true then 1 else 0) * 2 ^ k := by
  rw [Nat.pow_succ, Nat.mod_mul, bit_of, Nat.mul_comm (2 ^ k)]
theorem Q5.val {least : Int} {w : Nat} {b' : By} {l0 : Li} {r : By} (h : Q5 least w b' l0 r) (ha : AllI l0) {i : Nat} {x : Int} (hx : l0[i]? = some x) : w64 (least + (dif least (l0.getD i 0) % 2 ^ w : Nat)) = x := by
  obtain ⟨h1, h2, _⟩ := h
  have hm := List.mem_of_getElem? hx
  have e : l0.getD i 0 = x := by rw [List.getD_eq_getElem?_getD, hx]; rfl
  have h3 := dif_lt ha hm
  have h4 := lo_le hm
  rw [e, h1, h2, Nat.mod_eq_of_lt h3]
  have : lo l0 + (dif (lo l0) x : Nat) = x := by unfold dif; omega
  rw [this]
  exact w64_id (ha x hm)
theorem Q5.size {least : Int} {w : Nat} {b' : By} {l0 : Li} {r : By} (h : Q5 least w b' l0 r) : sz5 l0.length w ≤ b'.length := by
  obtain ⟨_, h2, h3⟩ := h
  rw [h3, h2, List.length_append, pk_len]; omega
end Go.Proofs.Ytmhpfadbmpipkaa.Cl

/-
  Plain numbers as lists of limbs (base 2^32, the least first): no program in sight.
-/
import Derived.WalkKit
namespace Go.Proofs.Ytmncamnlmpajbaa
namespace N

/-- The number that a list of limbs says. -/
def nv : List Nat → Nat
  | [] => 0
  | x :: r => x + 4294967296 * nv r
/-- Each limb is a limb. -/
def Lim (l : List Nat) : Prop := ∀ x ∈ l, x < 4294967296
/-- The limb at a place, 0 behind the end. -/
def dg (l : List Nat) (k : Nat) : Nat := l.getD k 0
/-- No nought at the end. -/
def Bare (l : List Nat) : Prop := l = [] ∨ dg l (l.length - 1) ≠ 0
def ofF : Nat → Nat → List Nat
  | 0, _ => []
  | f + 1, n => if n = 0 then [] else (n % 4294967296) :: ofF f (n / 4294967296)
/-- The bare list of a number. -/
def ofN (n : Nat) : List Nat := ofF n n

theorem nv_nil : nv [] = 0 := rfl
theorem nv_cons (x : Nat) (r : List Nat) : nv (x :: r) = x + 4294967296 * nv r := rfl
theorem dg_cons_zero (x : Nat) (r : List Nat) : dg (x :: r) 0 = x := rfl
theorem dg_cons_succ (x : Nat) (r : List Nat) (k : Nat) : dg (x :: r) (k + 1) = dg r k := by simp [dg]
theorem dg_ge (l : List Nat) (k : Nat) (h : l.length ≤ k) : dg l k = 0 := by simp [dg, h]
theorem dg_get (l : List Nat) (k : Nat) (h : k < l.length) : dg l k = l[k] := by simp [dg, h]
theorem dg_get? (l : List Nat) (k : Nat) (h : k < l.length) : l[k]? = some (dg l k) := by simp [dg, h]
theorem dg_lt {l : List Nat} (h : Lim l) (k : Nat) : dg l k < 4294967296 := by
  by_cases hk : k < l.length
  · rw [dg_get l k hk]; exact h _ (List.getElem_mem hk)
  · rw [dg_ge l k (by omega)]; omega
theorem Lim.tail {x : Nat} {r : List Nat} (h : Lim (x :: r)) : Lim r := fun y hy => h y (List.mem_cons_of_mem _ hy)
theorem Lim.head {x : Nat} {r : List Nat} (h : Lim (x :: r)) : x < 4294967296 := h x List.mem_cons_self
theorem Lim.cons {x : Nat} {r : List Nat} (hx : x < 4294967296) (h : Lim r) : Lim (x :: r) := fun y hy => by
  rcases List.mem_cons.1 hy with rfl | hy
  · exact hx
  · exact h y hy
theorem Lim.nil : Lim [] := fun _ h => by cases h
theorem Lim.app {a b : List Nat} (ha : Lim a) (hb : Lim b) : Lim (a ++ b) := fun x hx => by
  rcases List.mem_append.1 hx with h | h
  · exact ha x h
  · exact hb x h
theorem Lim.take {a : List Nat} (ha : Lim a) (k : Nat) : Lim (a.take k) := fun x hx => ha x (List.mem_of_mem_take hx)
theorem Lim.drop {a : List Nat} (ha : Lim a) (k : Nat) : Lim (a.drop k) := fun x hx => ha x (List.mem_of_mem_drop hx)
theorem Lim.rep (n : Nat) : Lim (List.replicate n 0) := fun x hx => by
  have := List.eq_of_mem_replicate hx; omega
theorem Lim.of_dg {l : List Nat} (h : ∀ k, k < l.length → dg l k < 4294967296) : Lim l := fun x hx => by
  obtain ⟨k, hk, rfl⟩ := List.getElem_of_mem hx
  rw [← dg_get l k hk]; exact h k hk

theorem ext_dg {a b : List Nat} (hl : a.length = b.length) (h : ∀ k, k < a.length → dg a k = dg b k) : a = b := by
  refine List.ext_getElem hl fun k h1 h2 => ?_
  rw [← dg_get a k h1, ← dg_get b k h2]; exact h k h1
theorem dg_append_left (a b : List Nat) (k : Nat) (h : k < a.length) : dg (a ++ b) k = dg a k := by
  rw [dg_get _ k (by simp; omega), dg_get a k h, List.getElem_append_left h]
theorem dg_append_right (a b : List Nat) (k : Nat) (h : a.length ≤ k) : dg (a ++ b) k = dg b (k - a.length) := by
  simp [dg, List.getElem?_append_right h]
theorem dg_take (a : List Nat) (n k : Nat) (h : k < n) : dg (a.take n) k = dg a k := by
  simp [dg, h]
theorem dg_drop (a : List Nat) (n k : Nat) : dg (a.drop n) k = dg a (n + k) := by
  simp [dg, List.getElem?_drop]
theorem dg_set (a : List Nat) (i k x : Nat) (h : i < a.length) : dg (a.set i x) k = if k = i then x else dg a k := by
  by_cases e : k = i
  · subst e; simp [dg, h]
  · simp [dg, e, Ne.symm e]
theorem dg_rep (n k : Nat) : dg (List.replicate n 0) k = 0 := by
  simp only [dg, List.getD, List.getElem?_replicate]; split <;> rfl
theorem Lim.set {a : List Nat} (ha : Lim a) (i x : Nat) (hx : x < 4294967296) : Lim (a.set i x) := fun y hy => by
  rcases List.mem_or_eq_of_mem_set hy with h | h
  · exact ha y h
  · subst h; exact hx

theorem nv_append (a b : List Nat) : nv (a ++ b) = nv a + 4294967296 ^ a.length * nv b := by
  induction a with
  | nil => simp [nv]
  | cons x a ih =>
    simp only [List.cons_append, nv_cons, ih, List.length_cons, Nat.pow_succ]
    rw [Nat.mul_add, Nat.mul_comm (4294967296 ^ a.length) 4294967296, Nat.mul_assoc]; omega
theorem nv_rep (n : Nat) : nv (List.replicate n 0) = 0 := by
  induction n with
  | zero => rfl
  | succ n ih => simp [List.replicate_succ, nv_cons, ih]
theorem nv_lt {l : List Nat} (h : Lim l) : nv l < 4294967296 ^ l.length := by
  induction l with
  | nil => simp [nv]
  | cons x l ih =>
    have h1 := ih h.tail
    have h2 := h.head
    simp only [nv_cons, List.length_cons, Nat.pow_succ]
    omega
theorem nv_snoc (l : List Nat) (x : Nat) : nv (l ++ [x]) = nv l + 4294967296 ^ l.length * x := by
  rw [nv_append]; simp [nv]
theorem take_succ_dg (l : List Nat) (k : Nat) (h : k < l.length) : l.take (k + 1) = l.take k ++ [dg l k] := by
  rw [List.take_succ_eq_append_getElem h, dg_get l k h]
theorem nv_take_succ (l : List Nat) (k : Nat) (h : k < l.length) : nv (l.take (k + 1)) = nv (l.take k) + 4294967296 ^ k * dg l k := by
  rw [take_succ_dg l k h, nv_snoc, List.length_take, Nat.min_eq_left (by omega)]
theorem nv_take_succ' (l : List Nat) (k : Nat) : nv (l.take (k + 1)) = nv (l.take k) + 4294967296 ^ k * dg l k := by
  by_cases h : k < l.length
  · exact nv_take_succ l k h
  · rw [dg_ge l k (by omega), List.take_of_length_le (by omega), List.take_of_length_le (by omega)]; omega
theorem nv_drop (l : List Nat) (k : Nat) (h : k < l.length) : nv (l.drop k) = dg l k + 4294967296 * nv (l.drop (k + 1)) := by
  rw [List.drop_eq_getElem_cons h, nv_cons, dg_get l k h]
theorem nv_split (l : List Nat) (k : Nat) : nv l = nv (l.take k) + 4294967296 ^ (min k l.length) * nv (l.drop k) := by
  have h := nv_append (l.take k) (l.drop k)
  rw [List.take_append_drop, List.length_take] at h
  exact h
theorem nv_inj {a b : List Nat} (hl : a.length = b.length) (ha : Lim a) (hb : Lim b) (h : nv a = nv b) : a = b := by
  induction a generalizing b with
  | nil => cases b with
    | nil => rfl
    | cons _ _ => simp at hl
  | cons x a ih => cases b with
    | nil => simp at hl
    | cons y b =>
      have h1 := ha.head
      have h2 := hb.head
      simp only [nv_cons] at h
      have e1 : x = y := by omega
      have e2 : nv a = nv b := by omega
      rw [e1, ih (by simpa using hl) ha.tail hb.tail e2]
theorem nv_ge {l : List Nat} (h : Bare l) (hne : l ≠ []) : 4294967296 ^ (l.length - 1) ≤ nv l := by
  rcases h with h | h
  · exact absurd h hne
  · have hl : 0 < l.length := List.length_pos_iff.2 hne
    have e := nv_take_succ l (l.length - 1) (by omega)
    rw [show l.length - 1 + 1 = l.length from by omega, List.take_length] at e
    have := Nat.le_mul_of_pos_right (4294967296 ^ (l.length - 1)) (Nat.pos_of_ne_zero h)
    omega
theorem bare_len_lt {a b : List Nat} (ha : Lim a) (hb : Bare b) (h : a.length < b.length) : nv a < nv b := by
  have h1 := nv_lt ha
  have h2 := nv_ge hb (by intro e; simp [e] at h)
  have h3 : 4294967296 ^ a.length ≤ 4294967296 ^ (b.length - 1) := Nat.pow_le_pow_right (by omega) (by omega)
  omega
theorem bare_inj {a b : List Nat} (ha : Lim a) (hb : Lim b) (ba : Bare a) (bb : Bare b) (h : nv a = nv b) : a = b := by
  refine nv_inj ?_ ha hb h
  rcases Nat.lt_trichotomy a.length b.length with hl | hl | hl
  · have := bare_len_lt ha bb hl; omega
  · exact hl
  · have := bare_len_lt hb ba hl; omega
theorem bare_zero {l : List Nat} (h : Bare l) (hz : nv l = 0) : l = [] := by
  by_cases hne : l = []
  · exact hne
  · have := nv_ge h hne
    have : 0 < 4294967296 ^ (l.length - 1) := Nat.pow_pos (by omega)
    omega

theorem ofF_spec (f : Nat) : ∀ n, n ≤ f → nv (ofF f n) = n ∧ Lim (ofF f n) ∧ Bare (ofF f n) := by
  induction f with
  | zero => intro n h; obtain rfl : n = 0 := by omega
            exact ⟨rfl, Lim.nil, .inl rfl⟩
  | succ f ih =>
    intro n h
    unfold ofF
    split
    · next h0 => subst h0; exact ⟨rfl, Lim.nil, .inl rfl⟩
    · next h0 =>
      obtain ⟨h1, h2, h3⟩ := ih (n / 4294967296) (by omega)
      refine ⟨by rw [nv_cons, h1]; omega, Lim.cons (Nat.mod_lt _ (by omega)) h2, .inr ?_⟩
      rcases h3 with h3 | h3
      · rw [h3] at h1 ⊢
        simp only [nv_nil] at h1
        simp only [List.length_cons, List.length_nil, dg, List.getD]
        simp
        omega
      · have hne : ofF f (n / 4294967296) ≠ [] := by
          intro e; rw [e] at h3; exact h3 rfl
        have hl : 0 < (ofF f (n / 4294967296)).length := List.length_pos_iff.2 hne
        simp only [List.length_cons]
        rw [show (ofF f (n / 4294967296)).length + 1 - 1 = ((ofF f (n / 4294967296)).length - 1) + 1 from by omega, dg_cons_succ]
        exact h3
theorem nv_ofN (n : Nat) : nv (ofN n) = n := (ofF_spec n n (Nat.le_refl _)).1
theorem lim_ofN (n : Nat) : Lim (ofN n) := (ofF_spec n n (Nat.le_refl _)).2.1
theorem bare_ofN (n : Nat) : Bare (ofN n) := (ofF_spec n n (Nat.le_refl _)).2.2
theorem ofN_zero : ofN 0 = [] := rfl
theorem ofN_nv {l : List Nat} (hl : Lim l) (hb : Bare l) : ofN (nv l) = l := bare_inj (lim_ofN _) hl (bare_ofN _) hb (nv_ofN _)
theorem ofN_inj {a b : Nat} (h : ofN a = ofN b) : a = b := by rw [← nv_ofN a, h, nv_ofN]
theorem ofN_eq_nil {n : Nat} : ofN n = [] ↔ n = 0 := ⟨fun h => by rw [← nv_ofN n, h]; rfl, fun h => by rw [h]; rfl⟩
theorem ofN_length_le {n k : Nat} (h : n < 4294967296 ^ k) : (ofN n).length ≤ k := by
  rcases Nat.lt_or_ge k (ofN n).length with hk | hk
  · have h1 := nv_ge (bare_ofN n) (by intro e; simp [e] at hk)
    rw [nv_ofN] at h1
    have h3 : 4294967296 ^ k ≤ 4294967296 ^ ((ofN n).length - 1) := Nat.pow_le_pow_right (by omega) (by omega)
    omega
  · exact hk
theorem ofN_nv_length {l : List Nat} (h : Lim l) : (ofN (nv l)).length ≤ l.length := ofN_length_le (nv_lt h)
theorem lt_pow_ofN (n : Nat) : n < 4294967296 ^ (ofN n).length := by
  have := nv_lt (lim_ofN n); rwa [nv_ofN] at this
theorem ofN_length_mono {a b : Nat} (h : a ≤ b) : (ofN a).length ≤ (ofN b).length :=
  ofN_length_le (Nat.lt_of_le_of_lt h (lt_pow_ofN b))

/-- A list cut at its last limb that is not 0 is the bare list of its number. -/
theorem take_bare {l : List Nat} (hl : Lim l) {n : Nat} (hn : n ≤ l.length) (hz : ∀ k, n ≤ k → k < l.length → dg l k = 0) (hb : n = 0 ∨ dg l (n - 1) ≠ 0) : l.take n = ofN (nv l) := by
  have hz' : l.drop n = List.replicate (l.length - n) 0 := by
    refine ext_dg (by simp) fun k hk => ?_
    rw [dg_drop, dg_rep]
    exact hz (n + k) (by omega) (by simp at hk; omega)
  have hv : nv l = nv (l.take n) := by
    rw [nv_split l n, hz', nv_rep]; omega
  rw [hv]
  refine (ofN_nv (hl.take n) ?_).symm
  rcases hb with hb | hb
  · subst hb; exact .inl (by simp)
  · by_cases h0 : n = 0
    · subst h0; exact .inl (by simp)
    · refine .inr ?_
      rw [List.length_take, Nat.min_eq_left hn, dg_take _ _ _ (by omega)]
      exact hb
/-- The places behind a number's bare list are noughts; the last of it is none. -/
theorem nv_len_le {l : List Nat} (hl : Lim l) : (ofN (nv l)).length ≤ l.length := ofN_nv_length hl

theorem bare_len {l : List Nat} (hl : Lim l) {n : Nat} (hn : n ≤ l.length) (hz : ∀ k, n ≤ k → k < l.length → dg l k = 0) (hb : n = 0 ∨ dg l (n - 1) ≠ 0) : (ofN (nv l)).length = n := by
  rw [← take_bare hl hn hz hb, List.length_take, Nat.min_eq_left hn]

/-- How two numbers stand. -/
def cmpN (a b : Nat) : Int := if a < b then -1 else if b < a then 1 else 0
theorem cmpN_lt {a b : Nat} (h : a < b) : cmpN a b = -1 := by simp [cmpN, h]
theorem cmpN_gt {a b : Nat} (h : b < a) : cmpN a b = 1 := by
  have : ¬ a < b := by omega
  simp [cmpN, h, this]
theorem cmpN_eq (a : Nat) : cmpN a a = 0 := by simp [cmpN]
theorem cmpN_cases (a b : Nat) : (a < b ∧ cmpN a b = -1) ∨ (a = b ∧ cmpN a b = 0) ∨ (b < a ∧ cmpN a b = 1) := by
  rcases Nat.lt_trichotomy a b with h | h | h
  · exact .inl ⟨h, cmpN_lt h⟩
  · subst h; exact .inr (.inl ⟨rfl, cmpN_eq a⟩)
  · exact .inr (.inr ⟨h, cmpN_gt h⟩)
theorem dg_hi_lt {a b : List Nat} (hl : a.length = b.length) (ha : Lim a) {i : Nat} (hi : i < a.length) (he : ∀ k, i < k → k < a.length → dg a k = dg b k) (h : dg a i < dg b i) : nv a < nv b := by
  have hd : a.drop (i + 1) = b.drop (i + 1) := ext_dg (by simp [hl]) fun k hk => by
    rw [dg_drop, dg_drop]; exact he _ (by omega) (by simp at hk; omega)
  have h1 := nv_split a (i + 1)
  have h2 := nv_split b (i + 1)
  rw [← hd, ← hl] at h2
  have h3 := nv_take_succ a i hi
  have h4 := nv_take_succ b i (by omega)
  have h5 := nv_lt (ha.take i)
  rw [List.length_take, Nat.min_eq_left (by omega)] at h5
  have h6 : 4294967296 ^ i * dg a i + 4294967296 ^ i ≤ 4294967296 ^ i * dg b i := by
    have := Nat.mul_le_mul_left (4294967296 ^ i) (show dg a i + 1 ≤ dg b i from h)
    rwa [Nat.mul_add, Nat.mul_one] at this
  omega

/-- The limb of a difference, and what is borrowed for it. -/
def dif (x y z : Nat) : Nat := (x + 8589934592 - y - z) % 4294967296
def bor (x y z : Nat) : Nat := if x < y + z then 1 else 0
theorem dif_lt (x y z : Nat) : dif x y z < 4294967296 := Nat.mod_lt _ (by omega)
theorem bor_le (x y z : Nat) : bor x y z ≤ 1 := by unfold bor; split <;> omega
theorem dif_bor (x y z : Nat) (hx : x < 4294967296) (hy : y < 4294967296) (hz : z ≤ 1) : x + 4294967296 * bor x y z = dif x y z + y + z := by
  unfold dif bor; split <;> omega
/-- What is borrowed ahead of place k; the list after k places. -/
def subB (a b : List Nat) : Nat → Nat
  | 0 => 0
  | k + 1 => bor (dg a k) (dg b k) (subB a b k)
def subS (a b : List Nat) : Nat → List Nat
  | 0 => a
  | k + 1 => (subS a b k).set k (dif (dg a k) (dg b k) (subB a b k))
theorem subB_le (a b : List Nat) (k : Nat) : subB a b k ≤ 1 := by cases k <;> simp [subB, bor_le]
theorem subS_length (a b : List Nat) (k : Nat) : (subS a b k).length = a.length := by
  induction k with
  | zero => rfl
  | succ k ih => simp [subS, ih]
theorem subS_dg_ge (a b : List Nat) (k j : Nat) (h : k ≤ j) : dg (subS a b k) j = dg a j := by
  induction k with
  | zero => rfl
  | succ k ih =>
    by_cases hk : k < a.length
    · rw [subS, dg_set _ _ _ _ (by rw [subS_length]; exact hk), if_neg (by omega), ih (by omega)]
    · rw [subS, List.set_eq_of_length_le (by rw [subS_length]; omega), ih (by omega)]
theorem subS_lim {a : List Nat} (ha : Lim a) (b : List Nat) (k : Nat) : Lim (subS a b k) := by
  induction k with
  | zero => exact ha
  | succ k ih => exact ih.set _ _ (dif_lt _ _ _)
theorem take_set_succ (l : List Nat) (k x : Nat) (h : k < l.length) : (l.set k x).take (k + 1) = l.take k ++ [x] := by
  rw [take_succ_dg _ k (by simpa using h), dg_set _ _ _ _ h, if_pos rfl, List.take_set_of_le (Nat.le_refl k)]
theorem subS_nv {a b : List Nat} (ha : Lim a) (hb : Lim b) (k : Nat) (hk : k ≤ a.length) :
    nv (a.take k) + 4294967296 ^ k * subB a b k = nv ((subS a b k).take k) + nv (b.take k) := by
  induction k with
  | zero => simp [subB, nv]
  | succ k ih =>
    have h1 := ih (by omega)
    have h2 := nv_take_succ a k (by omega)
    have h3 := nv_take_succ' b k
    have h4 : nv ((subS a b (k + 1)).take (k + 1)) = nv ((subS a b k).take k) + 4294967296 ^ k * dif (dg a k) (dg b k) (subB a b k) := by
      rw [subS, take_set_succ _ _ _ (by rw [subS_length]; omega), nv_snoc, List.length_take, subS_length, Nat.min_eq_left (by omega)]
    have h5 := dif_bor (dg a k) (dg b k) (subB a b k) (dg_lt ha k) (dg_lt hb k) (subB_le a b k)
    rw [h2, h3, h4]
    have h6 : 4294967296 ^ k * (dg a k + 4294967296 * bor (dg a k) (dg b k) (subB a b k)) = 4294967296 ^ k * (dif (dg a k) (dg b k) (subB a b k) + dg b k + subB a b k) := by rw [h5]
    simp only [Nat.mul_add] at h6
    rw [show subB a b (k + 1) = bor (dg a k) (dg b k) (subB a b k) from rfl, Nat.pow_succ, Nat.mul_assoc]
    omega
/-- All places: the difference, where it is not below 0. -/
theorem subS_all {a b : List Nat} (ha : Lim a) (hb : Lim b) (hl : b.length ≤ a.length) (h : nv b ≤ nv a) : nv (subS a b a.length) = nv a - nv b := by
  have h1 := subS_nv ha hb a.length (Nat.le_refl _)
  rw [List.take_length, List.take_of_length_le hl, List.take_of_length_le (by rw [subS_length]; exact Nat.le_refl _)] at h1
  have h2 := nv_lt (subS_lim ha b a.length)
  rw [subS_length] at h2
  have h3 := subB_le a b a.length
  rcases Nat.eq_zero_or_pos (subB a b a.length) with h0 | h0
  · rw [h0] at h1; omega
  · have : subB a b a.length = 1 := by omega
    rw [this] at h1; omega

/-- What is carried into place k; the list after k places. -/
def addC (a b : List Nat) : Nat → Nat
  | 0 => 0
  | k + 1 => (addC a b k + dg a k + dg b k) / 4294967296
def addS (a b : List Nat) : Nat → List Nat
  | 0 => List.replicate (a.length + 1) 0
  | k + 1 => (addS a b k).set k ((addC a b k + dg a k + dg b k) % 4294967296)
theorem addC_le {a b : List Nat} (ha : Lim a) (hb : Lim b) (k : Nat) : addC a b k ≤ 1 := by
  induction k with
  | zero => simp [addC]
  | succ k ih =>
    have h1 := dg_lt ha k
    have h2 := dg_lt hb k
    simp only [addC]; omega
theorem addS_length (a b : List Nat) (k : Nat) : (addS a b k).length = a.length + 1 := by
  induction k with
  | zero => simp [addS]
  | succ k ih => simp [addS, ih]
theorem addS_lim (a b : List Nat) (k : Nat) : Lim (addS a b k) := by
  induction k with
  | zero => exact Lim.rep _
  | succ k ih => exact ih.set _ _ (Nat.mod_lt _ (by omega))
theorem addS_nv (a b : List Nat) (k : Nat) (hk : k ≤ a.length) :
    nv ((addS a b k).take k) + 4294967296 ^ k * addC a b k = nv (a.take k) + nv (b.take k) := by
  induction k with
  | zero => simp [addC, nv]
  | succ k ih =>
    have h1 := ih (by omega)
    have h2 := nv_take_succ a k (by omega)
    have h3 := nv_take_succ' b k
    have h4 : nv ((addS a b (k + 1)).take (k + 1)) = nv ((addS a b k).take k) + 4294967296 ^ k * ((addC a b k + dg a k + dg b k) % 4294967296) := by
      rw [addS, take_set_succ _ _ _ (by rw [addS_length]; omega), nv_snoc, List.length_take, addS_length, Nat.min_eq_left (by omega)]
    rw [h2, h3, h4]
    have h6 : 4294967296 ^ k * ((addC a b k + dg a k + dg b k) % 4294967296 + 4294967296 * ((addC a b k + dg a k + dg b k) / 4294967296)) = 4294967296 ^ k * (addC a b k + dg a k + dg b k) := by rw [Nat.mod_add_div]
    simp only [Nat.mul_add] at h6
    rw [show addC a b (k + 1) = (addC a b k + dg a k + dg b k) / 4294967296 from rfl, Nat.pow_succ, Nat.mul_assoc]
    omega
theorem addS_all {a b : List Nat} (hl : b.length ≤ a.length) : nv ((addS a b a.length).set a.length (addC a b a.length)) = nv a + nv b := by
  have h1 := addS_nv a b a.length (Nat.le_refl _)
  rw [List.take_length, List.take_of_length_le hl] at h1
  have h2 := take_set_succ (addS a b a.length) a.length (addC a b a.length) (by rw [addS_length]; omega)
  rw [List.take_of_length_le (by simp [addS_length])] at h2
  rw [h2, nv_snoc, List.length_take, addS_length, Nat.min_eq_left (by omega)]
  exact h1

/-- One row of a product: L plus x b, from place i on. -/
def rowC (L : List Nat) (x : Nat) (b : List Nat) (i : Nat) : Nat → Nat
  | 0 => 0
  | k + 1 => (rowC L x b i k + (x * dg b k + dg L (i + k))) / 4294967296
def rowS (L : List Nat) (x : Nat) (b : List Nat) (i : Nat) : Nat → List Nat
  | 0 => L
  | k + 1 => (rowS L x b i k).set (i + k) ((rowC L x b i k + (x * dg b k + dg L (i + k))) % 4294967296)
theorem mul_lt {x y : Nat} (hx : x < 4294967296) (hy : y < 4294967296) : x * y ≤ 18446744065119617025 :=
  Nat.mul_le_mul (show x ≤ 4294967295 by omega) (show y ≤ 4294967295 by omega)
theorem rowC_lt {L b : List Nat} {x : Nat} (hL : Lim L) (hx : x < 4294967296) (hb : Lim b) (i k : Nat) : rowC L x b i k < 4294967296 := by
  induction k with
  | zero => simp [rowC]
  | succ k ih =>
    have h1 := mul_lt hx (dg_lt hb k)
    have h2 := dg_lt hL (i + k)
    simp only [rowC]; omega
theorem rowS_length (L : List Nat) (x : Nat) (b : List Nat) (i k : Nat) : (rowS L x b i k).length = L.length := by
  induction k with
  | zero => rfl
  | succ k ih => simp [rowS, ih]
theorem rowS_lim {L : List Nat} (hL : Lim L) (x : Nat) (b : List Nat) (i k : Nat) : Lim (rowS L x b i k) := by
  induction k with
  | zero => exact hL
  | succ k ih => exact ih.set _ _ (Nat.mod_lt _ (by omega))
theorem rowS_dg_ge (L : List Nat) (x : Nat) (b : List Nat) (i k j : Nat) (h : i + k ≤ j) : dg (rowS L x b i k) j = dg L j := by
  induction k with
  | zero => rfl
  | succ k ih =>
    by_cases hk : i + k < L.length
    · rw [rowS, dg_set _ _ _ _ (by rw [rowS_length]; exact hk), if_neg (by omega), ih (by omega)]
    · rw [rowS, List.set_eq_of_length_le (by rw [rowS_length]; omega), ih (by omega)]
theorem rowS_nv {L : List Nat} (x : Nat) (b : List Nat) (i k : Nat) (hk : i + k ≤ L.length) :
    nv ((rowS L x b i k).take (i + k)) + 4294967296 ^ (i + k) * rowC L x b i k = nv (L.take (i + k)) + 4294967296 ^ i * (x * nv (b.take k)) := by
  induction k with
  | zero => simp [rowC, rowS, nv]
  | succ k ih =>
    have h1 := ih (by omega)
    have h2 := nv_take_succ L (i + k) (by omega)
    have h3 := nv_take_succ' b k
    have h4 : nv ((rowS L x b i (k + 1)).take (i + k + 1)) = nv ((rowS L x b i k).take (i + k)) + 4294967296 ^ (i + k) * ((rowC L x b i k + (x * dg b k + dg L (i + k))) % 4294967296) := by
      rw [rowS, take_set_succ _ _ _ (by rw [rowS_length]; omega), nv_snoc, List.length_take, rowS_length, Nat.min_eq_left (by omega)]
    rw [show i + (k + 1) = i + k + 1 from rfl, h2, h3, h4]
    have h6 : 4294967296 ^ (i + k) * ((rowC L x b i k + (x * dg b k + dg L (i + k))) % 4294967296 + 4294967296 * ((rowC L x b i k + (x * dg b k + dg L (i + k))) / 4294967296)) = 4294967296 ^ (i + k) * (rowC L x b i k + (x * dg b k + dg L (i + k))) := by rw [Nat.mod_add_div]
    simp only [Nat.mul_add] at h6
    rw [show rowC L x b i (k + 1) = (rowC L x b i k + (x * dg b k + dg L (i + k))) / 4294967296 from rfl, Nat.pow_succ, Nat.mul_assoc]
    have h7 : 4294967296 ^ i * (x * (nv (b.take k) + 4294967296 ^ k * dg b k)) = 4294967296 ^ i * (x * nv (b.take k)) + 4294967296 ^ (i + k) * (x * dg b k) := by
      rw [Nat.mul_add, Nat.mul_add, Nat.pow_add]
      congr 1
      rw [Nat.mul_assoc, Nat.mul_left_comm x]
    rw [h7]
    omega
/-- The list after i rows of a b. -/
def mulS (a b : List Nat) : Nat → List Nat
  | 0 => List.replicate (a.length + b.length) 0
  | i + 1 => (rowS (mulS a b i) (dg a i) b i b.length).set (i + b.length) (rowC (mulS a b i) (dg a i) b i b.length)
theorem mulS_length (a b : List Nat) (i : Nat) : (mulS a b i).length = a.length + b.length := by
  induction i with
  | zero => simp [mulS]
  | succ i ih => simp [mulS, rowS_length, ih]
theorem mulS_lim {a b : List Nat} (ha : Lim a) (hb : Lim b) (i : Nat) : Lim (mulS a b i) := by
  induction i with
  | zero => exact Lim.rep _
  | succ i ih => exact (rowS_lim ih _ _ _ _).set _ _ (rowC_lt ih (dg_lt ha i) hb _ _)
theorem nv_of_zero {l : List Nat} {n : Nat} (h : ∀ j, n ≤ j → dg l j = 0) : nv l = nv (l.take n) := by
  rw [nv_split l n]
  have : l.drop n = List.replicate (l.length - n) 0 := ext_dg (by simp) fun k _ => by
    rw [dg_drop, dg_rep]; exact h _ (by omega)
  rw [this, nv_rep]; omega
theorem mulS_nv {a b : List Nat} (_ha : Lim a) (_hb : Lim b) (i : Nat) (hi : i ≤ a.length) :
    nv (mulS a b i) = nv (a.take i) * nv b ∧ ∀ j, i + b.length ≤ j → dg (mulS a b i) j = 0 := by
  induction i with
  | zero =>
    refine ⟨by simp [mulS, nv, nv_rep], fun j _ => by simp [mulS, dg_rep]⟩
  | succ i ih =>
    obtain ⟨h1, h2⟩ := ih (by omega)
    have hz : ∀ j, i + 1 + b.length ≤ j → dg (mulS a b (i + 1)) j = 0 := fun j hj => by
      rw [mulS, dg_set _ _ _ _ (by rw [rowS_length, mulS_length]; omega), if_neg (by omega), rowS_dg_ge _ _ _ _ _ _ (by omega)]
      exact h2 j (by omega)
    refine ⟨?_, hz⟩
    rw [nv_of_zero (n := i + b.length + 1) (fun j hj => hz j (by omega)), mulS, take_set_succ _ _ _ (by rw [rowS_length, mulS_length]; omega), nv_snoc, List.length_take, rowS_length, mulS_length, Nat.min_eq_left (by omega),
      rowS_nv _ _ _ _ (by rw [mulS_length]; omega), List.take_length, ← nv_of_zero h2, h1, nv_take_succ a i (by omega), Nat.add_mul, Nat.mul_assoc]
theorem mulS_all {a b : List Nat} (ha : Lim a) (hb : Lim b) : nv (mulS a b a.length) = nv a * nv b := by
  have := (mulS_nv ha hb a.length (Nat.le_refl _)).1
  rwa [List.take_length] at this

/-- Division by one limb, from the highest limb on: the quotient's limbs (as many), the rest. -/
def divQ (b : Nat) : List Nat → List Nat
  | [] => []
  | x :: r => ((nv r % b) * 4294967296 + x) / b :: divQ b r
theorem divQ_length (b : Nat) (l : List Nat) : (divQ b l).length = l.length := by
  induction l with
  | nil => rfl
  | cons x l ih => simp [divQ, ih]
theorem divQ_lim {b : Nat} (hb : 0 < b) {l : List Nat} (h : Lim l) : Lim (divQ b l) := by
  induction l with
  | nil => exact h
  | cons x l ih =>
    refine Lim.cons ?_ (ih h.tail)
    have h1 := h.head
    have h2 := Nat.mod_lt (nv l) hb
    rw [Nat.div_lt_iff_lt_mul hb]
    have h3 : (nv l % b + 1) * 4294967296 ≤ b * 4294967296 := Nat.mul_le_mul_right _ h2
    omega
theorem divQ_nv {b : Nat} (hb : 0 < b) (l : List Nat) : nv (divQ b l) = nv l / b := by
  induction l with
  | nil => simp [divQ, nv]
  | cons x l ih =>
    simp only [divQ, nv_cons, ih]
    have h1 := Nat.div_add_mod (nv l) b
    have e : x + 4294967296 * nv l = ((nv l % b) * 4294967296 + x) + b * (4294967296 * (nv l / b)) := by
      have : b * (4294967296 * (nv l / b)) = 4294967296 * (b * (nv l / b)) := Nat.mul_left_comm _ _ _
      omega
    rw [e, Nat.add_mul_div_left _ _ hb]
theorem divQ_mod (b x : Nat) (l : List Nat) : ((nv l % b) * 4294967296 + x) % b = nv (x :: l) % b := by
  rw [nv_cons, Nat.add_comm x, Nat.mul_comm 4294967296, Nat.add_mod, Nat.mul_mod, Nat.mod_mod, ← Nat.mul_mod, ← Nat.add_mod]
/-- The list after the places from i on. -/
def divS (b : Nat) (a : List Nat) (i : Nat) : List Nat := List.replicate i 0 ++ divQ b (a.drop i)
theorem divS_length (b : Nat) (a : List Nat) (i : Nat) (h : i ≤ a.length) : (divS b a i).length = a.length := by
  simp [divS, divQ_length]; omega
theorem divS_step (b : Nat) (a : List Nat) (j : Nat) (h : j < a.length) : (divS b a (j + 1)).set j (((nv (a.drop (j + 1)) % b) * 4294967296 + dg a j) / b) = divS b a j := by
  unfold divS
  rw [List.drop_eq_getElem_cons h, ← dg_get a j h, divQ, List.replicate_succ', List.append_assoc, List.set_append_right _ _ (by simp)]
  simp
theorem divS_all (b : Nat) (a : List Nat) : divS b a 0 = divQ b a := by simp [divS]
theorem divS_none (b : Nat) (a : List Nat) : divS b a a.length = List.replicate a.length 0 := by simp [divS, divQ]

/-- A number times a power of 2: the list after i places. -/
def leftS (a : List Nat) (s : Nat) : Nat → List Nat
  | 0 => List.replicate (a.length + 1) 0
  | i + 1 => ((leftS a s i).set i (dg (leftS a s i) i ||| (dg a i * 2 ^ s % 4294967296))).set (i + 1) (dg a i * 2 ^ s / 4294967296)
theorem leftS_length (a : List Nat) (s i : Nat) : (leftS a s i).length = a.length + 1 := by
  induction i with
  | zero => simp [leftS]
  | succ i ih => simp [leftS, ih]
theorem pow_dvd (s : Nat) (hs : s < 32) : ∃ q, 4294967296 = 2 ^ s * q ∧ 0 < q :=
  ⟨2 ^ (32 - s), by rw [← Nat.pow_add, show s + (32 - s) = 32 from by omega], Nat.pow_pos (by omega)⟩
theorem low_mod (x s : Nat) (hs : s < 32) : (x * 2 ^ s % 4294967296) % 2 ^ s = 0 ∧ x * 2 ^ s % 4294967296 + 2 ^ s ≤ 4294967296 := by
  obtain ⟨q, hq, hq0⟩ := pow_dvd s hs
  have e : x * 2 ^ s % 4294967296 = 2 ^ s * (x % q) := by rw [hq, Nat.mul_comm x, Nat.mul_mod_mul_left]
  refine ⟨by rw [e]; exact Nat.mul_mod_right _ _, ?_⟩
  rw [e]
  have h1 := Nat.mod_lt x hq0
  have h2 : 2 ^ s * (x % q + 1) ≤ 2 ^ s * q := Nat.mul_le_mul_left _ h1
  rw [Nat.mul_add, ← hq] at h2
  omega
theorem high_lt (x s : Nat) (hx : x < 4294967296) : x * 2 ^ s / 4294967296 < 2 ^ s := by
  rw [Nat.div_lt_iff_lt_mul (by omega), Nat.mul_comm]
  exact Nat.mul_lt_mul_of_pos_left hx (Nat.pow_pos (by omega))
theorem leftS_inv {a : List Nat} (ha : Lim a) (s i : Nat) (hs : s < 32) (hi : i ≤ a.length) :
    Lim (leftS a s i) ∧ dg (leftS a s i) i < 2 ^ s ∧ nv ((leftS a s i).take (i + 1)) = nv (a.take i) * 2 ^ s := by
  have hp : 2 ^ s ≤ 2 ^ 31 := Nat.pow_le_pow_right (by omega) (by omega)
  induction i with
  | zero => exact ⟨Lim.rep _, by simp only [leftS, dg_rep]; exact Nat.pow_pos (by omega), by simp [leftS, nv]⟩
  | succ i ih =>
    obtain ⟨h1, h2, h3⟩ := ih (by omega)
    have hx := dg_lt ha i
    obtain ⟨m1, m2⟩ := low_mod (dg a i) s hs
    have hh := high_lt (dg a i) s hx
    have hor : dg (leftS a s i) i ||| (dg a i * 2 ^ s % 4294967296) = dg (leftS a s i) i + dg a i * 2 ^ s % 4294967296 := by
      rw [Nat.or_comm, nat_join s _ _ m1 h2, Nat.add_comm]
    have hl := leftS_length a s i
    refine ⟨?_, ?_, ?_⟩
    · simp only [leftS]
      exact (h1.set _ _ (by rw [hor]; omega)).set _ _ (by omega)
    · simp only [leftS]
      rw [dg_set _ _ _ _ (by simp [hl]; omega), if_pos rfl]; exact hh
    · have e1 : nv ((leftS a s (i + 1)).take (i + 2)) = nv ((leftS a s i).take i) + 4294967296 ^ i * (dg (leftS a s i) i + dg a i * 2 ^ s % 4294967296) + 4294967296 ^ (i + 1) * (dg a i * 2 ^ s / 4294967296) := by
        simp only [leftS]
        rw [take_set_succ _ _ _ (by simp [hl]; omega), nv_snoc, take_set_succ _ _ _ (by omega), nv_snoc, hor, List.length_append, List.length_take, Nat.min_eq_left (by omega)]
        rfl
      have e2 := nv_take_succ (leftS a s i) i (by omega)
      have e3 := nv_take_succ a i (by omega)
      rw [e1, e3, Nat.add_mul, Nat.mul_assoc (4294967296 ^ i), ← h3, e2, Nat.pow_succ]
      have h4 := Nat.mod_add_div (dg a i * 2 ^ s) 4294967296
      have h5 : 4294967296 ^ i * (dg a i * 2 ^ s % 4294967296 + 4294967296 * (dg a i * 2 ^ s / 4294967296)) = 4294967296 ^ i * (dg a i * 2 ^ s) := by rw [h4]
      simp only [Nat.mul_add] at h5
      rw [Nat.mul_assoc (4294967296 ^ i) 4294967296]
      simp only [Nat.mul_add]
      omega
theorem leftS_all {a : List Nat} (ha : Lim a) (s : Nat) (hs : s < 32) : nv (leftS a s a.length) = nv a * 2 ^ s := by
  have h := (leftS_inv ha s a.length hs (Nat.le_refl _)).2.2
  rwa [List.take_length, List.take_of_length_le (by rw [leftS_length]; exact Nat.le_refl _)] at h
end N
end Go.Proofs.Ytmncamnlmpajbaa

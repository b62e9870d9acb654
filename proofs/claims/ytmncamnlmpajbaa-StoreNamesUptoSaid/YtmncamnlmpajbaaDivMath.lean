/-
  Long division, limb by limb; a list shifted down (plain numbers).
-/
import Derived.Test.YtmncamnlmpajbaaKnuth
namespace Go.Proofs.Ytmncamnlmpajbaa
namespace N

theorem nv_take_small {l : List Nat} {n : Nat} (h : nv l < 4294967296 ^ n) : nv (l.take n) = nv l ∧ nv (l.drop n) = 0 := by
  by_cases hn : n ≤ l.length
  · have h1 := nv_split l n
    rw [Nat.min_eq_left hn] at h1
    rcases Nat.eq_zero_or_pos (nv (l.drop n)) with h2 | h2
    · rw [h2] at h1; exact ⟨by omega, h2⟩
    · have := Nat.le_mul_of_pos_right (4294967296 ^ n) h2; omega
  · rw [List.take_of_length_le (by omega), List.drop_eq_nil_of_le (by omega)]; exact ⟨rfl, rfl⟩
theorem nv_set_zero (q : List Nat) (j x : Nat) (hj : j < q.length) (h0 : dg q j = 0) : nv (q.set j x) = nv q + 4294967296 ^ j * x := by
  have h1 := nv_split q (j + 1)
  have h2 := nv_split (q.set j x) (j + 1)
  rw [Nat.min_eq_left (by omega)] at h1
  rw [List.length_set, Nat.min_eq_left (by omega), take_set_succ _ _ _ hj, nv_snoc, List.length_take, Nat.min_eq_left (by omega), List.drop_set_of_lt (by omega)] at h2
  have h3 := nv_take_succ q j hj
  rw [h0] at h3
  omega
section
variable {u v : List Nat} {j m : Nat}
theorem dm_win (hu : Lim u) (hv : Lim v) (hlen : j + m + 1 ≤ u.length) (hvl : v.length = m) (h2 : nv (u.drop (j + 1)) < nv v) :
    nv ((u.drop j).take (m + 1)) = nv (u.drop j) ∧ nv ((u.drop j).take (m + 1)) < nv v * 4294967296 ∧ ((u.drop j).take (m + 1)).length = m + 1 ∧
      u.take j ++ (u.drop j).take (m + 1) ++ u.drop (j + m + 1) = u ∧ nv (u.drop (j + m + 1)) = 0 ∧ (u.take j).length = j := by
  have h3 := nv_drop u j (by omega)
  have h4 := dg_lt hu j
  have h5 := nv_lt hv
  rw [hvl] at h5
  have h6 : nv (u.drop j) < 4294967296 ^ (m + 1) := by rw [Nat.pow_succ]; omega
  obtain ⟨h7, h8⟩ := nv_take_small h6
  rw [List.drop_drop, ← Nat.add_assoc] at h8
  refine ⟨h7, by rw [h7]; omega, by simp; omega, ?_, h8, by simp; omega⟩
  have e : (u.drop j).drop (m + 1) = u.drop (j + m + 1) := by rw [List.drop_drop, Nat.add_assoc]
  rw [List.append_assoc, ← e, List.take_append_drop, List.take_append_drop]
theorem dm_step {w' : List Nat} (hu : Lim u) (hv : Lim v) (hlen : j + m + 1 ≤ u.length) (hvl : v.length = m) (h2 : nv (u.drop (j + 1)) < nv v) (hl : w'.length = m + 1) (hw : nv w' = nv ((u.drop j).take (m + 1)) % nv v) :
    nv (u.take j ++ w' ++ u.drop (j + m + 1)) + nv v * (4294967296 ^ j * (nv ((u.drop j).take (m + 1)) / nv v)) = nv u ∧ nv ((u.take j ++ w' ++ u.drop (j + m + 1)).drop j) < nv v ∧ (u.take j ++ w' ++ u.drop (j + m + 1)).length = u.length := by
  obtain ⟨h3, _, _, _, h5, h6⟩ := dm_win hu hv hlen hvl h2
  have hv0 : 0 < nv v := by omega
  have h7 := Nat.div_add_mod (nv ((u.drop j).take (m + 1))) (nv v)
  have h8 := nv_split u j
  rw [Nat.min_eq_left (by omega), ← h3] at h8
  refine ⟨?_, ?_, ?_⟩
  · rw [List.append_assoc, nv_append, nv_append, h5, hw, h6, Nat.mul_zero, Nat.add_zero, h8, Nat.mul_left_comm (nv v), Nat.add_assoc, ← Nat.mul_add, Nat.add_comm (_ % _), h7]
  · rw [List.append_assoc, List.drop_append_of_le_length (by omega), List.drop_eq_nil_of_le (by omega), List.nil_append, nv_append, h5, Nat.mul_zero, Nat.add_zero, hw]
    exact Nat.mod_lt _ hv0
  · simp only [List.length_append, List.length_drop, hl, h6]; omega
end

/-- A list shifted down by s binary digits. -/
def shr (s : Nat) : List Nat → List Nat
  | [] => []
  | x :: r => (x / 2 ^ s + dg r 0 * 2 ^ (32 - s) % 4294967296) :: shr s r
theorem shr_length (s : Nat) (l : List Nat) : (shr s l).length = l.length := by
  induction l with
  | nil => rfl
  | cons x l ih => simp [shr, ih]
theorem pow_split (s : Nat) (hs : s < 32) : 4294967296 = 2 ^ s * 2 ^ (32 - s) := by
  rw [← Nat.pow_add, show s + (32 - s) = 32 from by omega]
theorem shr_nv (s : Nat) (hs : s < 32) (l : List Nat) : nv (shr s l) = nv l / 2 ^ s := by
  have hp := pow_split s hs
  have hp0 : 0 < 2 ^ s := Nat.pow_pos (by omega)
  have hq0 : 0 < 2 ^ (32 - s) := Nat.pow_pos (by omega)
  induction l with
  | nil => simp [shr, nv]
  | cons x r ih =>
    simp only [shr, nv_cons, ih]
    have e1 : (x + 4294967296 * nv r) / 2 ^ s = x / 2 ^ s + 2 ^ (32 - s) * nv r := by
      rw [hp, Nat.mul_assoc, Nat.add_mul_div_left _ _ hp0]
    rw [e1, Nat.add_assoc]
    congr 1
    have hr : nv r = dg r 0 + 4294967296 * nv (r.drop 1) := by
      cases r with
      | nil => rfl
      | cons y t => simp [nv_cons, dg_cons_zero]
    have e2 : nv r / 2 ^ s = dg r 0 / 2 ^ s + 2 ^ (32 - s) * nv (r.drop 1) := by
      rw [hr]
      conv => lhs; rw [hp]
      rw [Nat.mul_assoc, Nat.add_mul_div_left _ _ hp0]
    have e3 : dg r 0 * 2 ^ (32 - s) / 4294967296 = dg r 0 / 2 ^ s := by
      conv => lhs; rw [hp]
      rw [Nat.mul_div_mul_right _ _ hq0]
    have e4 := Nat.mod_add_div (dg r 0 * 2 ^ (32 - s)) 4294967296
    rw [e3] at e4
    have e5 : 2 ^ (32 - s) * nv r = dg r 0 * 2 ^ (32 - s) + 4294967296 * (2 ^ (32 - s) * nv (r.drop 1)) := by
      rw [Nat.mul_left_comm 4294967296, Nat.mul_comm (dg r 0), ← Nat.mul_add, ← hr]
    rw [e5, e2, Nat.mul_add]
    omega
theorem shr_dg (s : Nat) (l : List Nat) (k : Nat) (h : k < l.length) : dg (shr s l) k = dg l k / 2 ^ s + dg l (k + 1) * 2 ^ (32 - s) % 4294967296 := by
  induction l generalizing k with
  | nil => simp at h
  | cons x r ih =>
    cases k with
    | zero => simp [shr, dg_cons_zero, dg_cons_succ]
    | succ k => simp only [shr, dg_cons_succ]; exact ih k (by simpa using h)
/-- The limb that place k gets, of a list whose first m limbs are shifted down in place. -/
def rsv (l : List Nat) (s m k : Nat) : Nat := dg l k / 2 ^ s + (if k + 1 < m then dg l (k + 1) * 2 ^ (32 - s) % 4294967296 else 0)
def rsS (l : List Nat) (s m : Nat) : Nat → List Nat
  | 0 => l
  | k + 1 => (rsS l s m k).set k (rsv l s m k)
theorem rsS_length (l : List Nat) (s m k : Nat) : (rsS l s m k).length = l.length := by
  induction k with
  | zero => rfl
  | succ k ih => simp [rsS, ih]
theorem rsS_dg_ge (l : List Nat) (s m k j : Nat) (h : k ≤ j) : dg (rsS l s m k) j = dg l j := by
  induction k with
  | zero => rfl
  | succ k ih =>
    by_cases hk : k < l.length
    · rw [rsS, dg_set _ _ _ _ (by rw [rsS_length]; exact hk), if_neg (by omega), ih (by omega)]
    · rw [rsS, List.set_eq_of_length_le (by rw [rsS_length]; omega), ih (by omega)]
theorem rsS_dg_lt (l : List Nat) (s m k j : Nat) (h : j < k) (hk : k ≤ l.length) : dg (rsS l s m k) j = rsv l s m j := by
  induction k with
  | zero => omega
  | succ k ih =>
    rw [rsS, dg_set _ _ _ _ (by rw [rsS_length]; omega)]
    by_cases e : j = k
    · rw [if_pos e, e]
    · rw [if_neg e, ih (by omega) (by omega)]
theorem rsS_all {l : List Nat} (s m : Nat) (hs : s < 32) (hm : m ≤ l.length) : nv ((rsS l s m m).take m) = nv (l.take m) / 2 ^ s := by
  have e : (rsS l s m m).take m = shr s (l.take m) := by
    refine ext_dg (by simp [shr_length, rsS_length]) fun k hk => ?_
    have hk' : k < m := by simp [rsS_length] at hk; omega
    rw [dg_take _ _ _ hk', rsS_dg_lt _ _ _ _ _ hk' hm, shr_dg _ _ _ (by simp; omega), dg_take _ _ _ hk']
    unfold rsv
    by_cases h1 : k + 1 < m
    · rw [if_pos h1, dg_take _ _ _ h1]
    · rw [if_neg h1, dg_ge (l.take m) (k + 1) (by simp; omega)]; simp
  rw [e, shr_nv s hs]
/-- The two summands don't meet; their sum is a limb. -/
theorem rsv_or {x y s : Nat} (hs : s < 32) (hx : x < 4294967296) : x / 2 ^ s ||| (y * 2 ^ (32 - s) % 4294967296) = x / 2 ^ s + y * 2 ^ (32 - s) % 4294967296 ∧ x / 2 ^ s + y * 2 ^ (32 - s) % 4294967296 < 4294967296 := by
  have hp := pow_split s hs
  have hp0 : 0 < 2 ^ s := Nat.pow_pos (by omega)
  have h1 : x / 2 ^ s < 2 ^ (32 - s) := by rw [Nat.div_lt_iff_lt_mul hp0, Nat.mul_comm, ← hp]; exact hx
  by_cases h0 : s = 0
  · subst h0
    have : y * 2 ^ (32 - 0) % 4294967296 = 0 := Nat.mul_mod_left _ _
    rw [this]
    simp; exact hx
  · obtain ⟨m1, m2⟩ := low_mod y (32 - s) (by omega)
    refine ⟨?_, by omega⟩
    rw [Nat.or_comm, nat_join (32 - s) _ _ m1 h1, Nat.add_comm]

/-- The divisor brought up so that its top bit is set. -/
theorem dm_norm {b : List Nat} {m s : Nat} (hb : Lim b) (hl : b.length = m) (hm : 1 ≤ m) (h1 : 2147483648 ≤ dg b (m - 1) * 2 ^ s) (h2 : (dg b (m - 1) + 1) * 2 ^ s ≤ 4294967296) :
    (ofN (nv b * 2 ^ s)).length = m ∧ 2147483648 ≤ dg (ofN (nv b * 2 ^ s)) (m - 1) ∧ 4294967296 ^ (m - 1) * 2147483648 ≤ nv b * 2 ^ s := by
  have h3 := nv_take_succ b (m - 1) (by omega)
  rw [show m - 1 + 1 = m from by omega, List.take_of_length_le (by omega)] at h3
  have h4 := nv_lt (hb.take (m - 1))
  rw [List.length_take, Nat.min_eq_left (by omega)] at h4
  generalize dg b (m - 1) = x at *
  have h5 : nv b * 2 ^ s < 4294967296 ^ m := by
    have h6 : nv b + 1 ≤ 4294967296 ^ (m - 1) * (x + 1) := by rw [Nat.mul_add]; omega
    have h7 := Nat.mul_le_mul_right (2 ^ s) h6
    rw [Nat.mul_assoc] at h7
    have h8 := Nat.mul_le_mul_left (4294967296 ^ (m - 1)) h2
    have h9 : 4294967296 ^ (m - 1) * 4294967296 = 4294967296 ^ m := by rw [← Nat.pow_succ, show (m - 1).succ = m from by omega]
    have h10 : 0 < 2 ^ s := Nat.pow_pos (by omega)
    rw [Nat.add_mul] at h7
    omega
  have h6 : 4294967296 ^ (m - 1) * 2147483648 ≤ nv b * 2 ^ s := by
    have h7 := Nat.mul_le_mul_left (4294967296 ^ (m - 1)) h1
    have h8 : 4294967296 ^ (m - 1) * x ≤ nv b := by omega
    have h9 := Nat.mul_le_mul_right (2 ^ s) h8
    rw [Nat.mul_assoc] at h9
    omega
  have hlen : (ofN (nv b * 2 ^ s)).length = m := by
    have h7 := ofN_length_le h5
    rcases Nat.lt_or_ge (ofN (nv b * 2 ^ s)).length m with h8 | h8
    · have h9 := lt_pow_ofN (nv b * 2 ^ s)
      have h10 : 4294967296 ^ (ofN (nv b * 2 ^ s)).length ≤ 4294967296 ^ (m - 1) := Nat.pow_le_pow_right (by omega) (by omega)
      omega
    · omega
  refine ⟨hlen, ?_, h6⟩
  have h7 := nv_take_succ (ofN (nv b * 2 ^ s)) (m - 1) (by omega)
  rw [show m - 1 + 1 = m from by omega, List.take_of_length_le (by omega), nv_ofN] at h7
  have h8 := nv_lt ((lim_ofN (nv b * 2 ^ s)).take (m - 1))
  rw [List.length_take, Nat.min_eq_left (by omega)] at h8
  rcases Nat.lt_or_ge (dg (ofN (nv b * 2 ^ s)) (m - 1)) 2147483648 with h9 | h9
  · have h10 := Nat.mul_le_mul_left (4294967296 ^ (m - 1)) (show dg (ofN (nv b * 2 ^ s)) (m - 1) + 1 ≤ 2147483648 from h9)
    rw [Nat.mul_add] at h10
    omega
  · exact h9
theorem dm_init {a : List Nat} {l v : List Nat} {p m s : Nat} (ha : Lim a) (hal : a.length = p) (hl : nv l = nv a * 2 ^ s) (hll : l.length = p + 1) (hs : s < 32) (hm : 1 ≤ m) (hmp : m ≤ p) (hv : 4294967296 ^ (m - 1) * 2147483648 ≤ nv v) :
    nv (l.drop (p + 1 - m)) < nv v := by
  have h1 := nv_split l (p + 1 - m)
  rw [Nat.min_eq_left (by omega), hl] at h1
  have h2 := nv_lt ha
  rw [hal] at h2
  have h3 : 2 ^ s ≤ 2 ^ 31 := Nat.pow_le_pow_right (by omega) (by omega)
  have h4 : nv a * 2 ^ s < 4294967296 ^ p * 2 ^ s := Nat.mul_lt_mul_of_pos_right h2 (Nat.pow_pos (by omega))
  have h5 : 4294967296 ^ p = 4294967296 ^ (p + 1 - m) * 4294967296 ^ (m - 1) := by rw [← Nat.pow_add, show p + 1 - m + (m - 1) = p from by omega]
  rw [h5, Nat.mul_assoc] at h4
  have h6 : 4294967296 ^ (p + 1 - m) * nv (l.drop (p + 1 - m)) < 4294967296 ^ (p + 1 - m) * (4294967296 ^ (m - 1) * 2 ^ s) := by omega
  have h7 := Nat.lt_of_mul_lt_mul_left h6
  have h8 := Nat.mul_le_mul_left (4294967296 ^ (m - 1)) h3
  omega

theorem dm_final {a b r q s : Nat} (h1 : r < b * 2 ^ s) (h2 : r + b * 2 ^ s * q = a * 2 ^ s) : q = a / b ∧ r / 2 ^ s = a % b := by
  have hp : 0 < 2 ^ s := Nat.pow_pos (by omega)
  have h3 : a * 2 ^ s / (b * 2 ^ s) = q := by
    rw [← h2, Nat.add_mul_div_left _ _ (by omega), Nat.div_eq_of_lt h1, Nat.zero_add]
  have h4 : a * 2 ^ s % (b * 2 ^ s) = r := by rw [← h2, Nat.add_mul_mod_self_left, Nat.mod_eq_of_lt h1]
  rw [Nat.mul_div_mul_right _ _ hp] at h3
  rw [Nat.mul_mod_mul_right] at h4
  exact ⟨h3.symm, by rw [← h4, Nat.mul_div_cancel _ hp]⟩
end N
end Go.Proofs.Ytmncamnlmpajbaa

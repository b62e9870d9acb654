/-
  One limb of a quotient (plain numbers): the estimate out of the top limbs is at most one too many.
-/
import Derived.Test.YtmncamnlmpajbaaNum
namespace Go.Proofs.Ytmncamnlmpajbaa
namespace N

section
variable {vt v2 M vl ut u1 u2 ul q rest : Nat}
theorem knuth_hi (hr : rest + q * vt = ut * 4294967296 + u1) (hul : ul < M) (h : rest * 4294967296 + u2 < q * v2) :
    ul + M * (u2 + 4294967296 * (u1 + 4294967296 * ut)) < q * (vl + M * (v2 + 4294967296 * vt)) := by
  have h1 : u2 + 4294967296 * (u1 + 4294967296 * ut) + 1 ≤ q * (v2 + 4294967296 * vt) := by
    have e : q * (v2 + 4294967296 * vt) = q * v2 + 4294967296 * (q * vt) := by rw [Nat.mul_add, Nat.mul_left_comm]
    rw [e]; omega
  have h2 := Nat.mul_le_mul_left M h1
  rw [Nat.mul_add, Nat.mul_one] at h2
  have e2 : q * (vl + M * (v2 + 4294967296 * vt)) = q * vl + M * (q * (v2 + 4294967296 * vt)) := by rw [Nat.mul_add, Nat.mul_left_comm q M]
  rw [e2]
  omega
theorem knuth_lo (hr : rest + q * vt = ut * 4294967296 + u1) (hq : q < 4294967296) (hv2 : v2 < 4294967296) (hvt : 1 ≤ vt) (hvl : vl < M) (h : 4294967296 ≤ rest ∨ q * v2 ≤ rest * 4294967296 + u2) :
    q * (vl + M * (v2 + 4294967296 * vt)) < (ul + M * (u2 + 4294967296 * (u1 + 4294967296 * ut))) + (vl + M * (v2 + 4294967296 * vt)) := by
  have h1 : q * (v2 + 4294967296 * vt) ≤ u2 + 4294967296 * (u1 + 4294967296 * ut) := by
    have e : q * (v2 + 4294967296 * vt) = q * v2 + 4294967296 * (q * vt) := by rw [Nat.mul_add, Nat.mul_left_comm]
    rw [e]
    rcases h with h | h
    · have h3 : q * v2 ≤ 4294967295 * 4294967295 := Nat.mul_le_mul (by omega) (by omega)
      omega
    · omega
  have h2 := Nat.mul_le_mul_left M h1
  have e2 : q * (vl + M * (v2 + 4294967296 * vt)) = q * vl + M * (q * (v2 + 4294967296 * vt)) := by rw [Nat.mul_add, Nat.mul_left_comm q M]
  have h4 : q * vl ≤ 4294967295 * vl := Nat.mul_le_mul_right _ (by omega)
  have h5 : M * 4294967296 ≤ M * (v2 + 4294967296 * vt) := Nat.mul_le_mul_left _ (by omega)
  rw [e2]
  omega
theorem knuth_top (hvl : vl < M) (_hul : ul < M) (hv2 : v2 < 4294967296) (h : ul + M * (u2 + 4294967296 * (u1 + 4294967296 * ut)) < (vl + M * (v2 + 4294967296 * vt)) * 4294967296) : ut ≤ vt := by
  rcases Nat.lt_or_ge vt ut with h1 | h1
  · have h2 : M * (4294967296 * (4294967296 * (vt + 1))) ≤ M * (u2 + 4294967296 * (u1 + 4294967296 * ut)) := Nat.mul_le_mul_left _ (by omega)
    have h3 : M * (v2 + 4294967296 * vt + 1) ≤ M * (4294967296 * (vt + 1)) := Nat.mul_le_mul_left _ (by omega)
    have e1 : M * (4294967296 * (4294967296 * (vt + 1))) = M * (4294967296 * (vt + 1)) * 4294967296 := by rw [Nat.mul_assoc M, Nat.mul_comm (4294967296 * (vt + 1)) 4294967296]
    rw [Nat.mul_add M, Nat.mul_one] at h3
    omega
  · exact h1
theorem knuth_first {Q : Nat} (hul : ul < M) (hu2 : u2 < 4294967296) (_hu1 : u1 < 4294967296) (h : Q * (vl + M * (v2 + 4294967296 * vt)) ≤ ul + M * (u2 + 4294967296 * (u1 + 4294967296 * ut))) : Q * vt ≤ ut * 4294967296 + u1 := by
  rcases Nat.lt_or_ge (ut * 4294967296 + u1) (Q * vt) with h1 | h1
  · have h2 : M * (u2 + 4294967296 * (u1 + 4294967296 * ut) + 1) ≤ M * (4294967296 * (Q * vt)) := Nat.mul_le_mul_left _ (by omega)
    have e2 : Q * (vl + M * (v2 + 4294967296 * vt)) = Q * vl + M * (Q * v2) + M * (4294967296 * (Q * vt)) := by
      rw [Nat.mul_add, Nat.mul_left_comm Q M, Nat.mul_add Q, Nat.mul_add M, Nat.mul_left_comm Q 4294967296, Nat.add_assoc]
    rw [Nat.mul_add M, Nat.mul_one] at h2
    omega
  · exact h1
end

theorem nv_top2 (v : List Nat) (m : Nat) (h : v.length = m + 2) : nv v = nv (v.take m) + 4294967296 ^ m * (dg v m + 4294967296 * dg v (m + 1)) := by
  have h1 := nv_take_succ v m (by omega)
  have h2 := nv_take_succ v (m + 1) (by omega)
  rw [List.take_of_length_le (by omega)] at h2
  rw [h2, h1, Nat.pow_succ, Nat.mul_assoc, Nat.mul_add]; omega
theorem nv_top3 (u : List Nat) (m : Nat) (h : u.length = m + 3) : nv u = nv (u.take m) + 4294967296 ^ m * (dg u m + 4294967296 * (dg u (m + 1) + 4294967296 * dg u (m + 2))) := by
  have h1 := nv_take_succ u m (by omega)
  have h2 := nv_take_succ u (m + 1) (by omega)
  have h3 := nv_take_succ u (m + 2) (by omega)
  rw [List.take_of_length_le (by omega)] at h3
  rw [h3, h2, h1]
  simp only [Nat.pow_succ, Nat.mul_assoc, Nat.mul_add]; omega

/-- The limbs of q v, one more than v has. -/
def prodS (q : Nat) (v : List Nat) : List Nat := mulS [q] v 1
theorem prodS_nv {q : Nat} {v : List Nat} (hq : q < 4294967296) (hv : Lim v) : nv (prodS q v) = q * nv v := by
  have h := mulS_all (a := [q]) (Lim.cons hq Lim.nil) hv
  simpa [nv, prodS] using h
theorem prodS_length (q : Nat) (v : List Nat) : (prodS q v).length = v.length + 1 := by rw [prodS, mulS_length]; simp; omega
theorem prodS_lim {q : Nat} {v : List Nat} (hq : q < 4294967296) (hv : Lim v) : Lim (prodS q v) := mulS_lim (Lim.cons hq Lim.nil) hv 1
/-- What is carried into place k. -/
def prodC (q : Nat) (v : List Nat) (k : Nat) : Nat := rowC (List.replicate (1 + v.length) 0) q v 0 k
theorem prodC_zero (q : Nat) (v : List Nat) : prodC q v 0 = 0 := rfl
theorem prodC_succ (q : Nat) (v : List Nat) (k : Nat) : prodC q v (k + 1) = (prodC q v k + q * dg v k) / 4294967296 := by
  simp [prodC, rowC, dg_rep]
theorem prodC_lt {q : Nat} {v : List Nat} (hq : q < 4294967296) (hv : Lim v) (k : Nat) : prodC q v k < 4294967296 := rowC_lt (Lim.rep _) hq hv 0 k
theorem rowS_dg_lt (L : List Nat) (x : Nat) (b : List Nat) (k m : Nat) (h : k < m) (hm : m ≤ L.length) : dg (rowS L x b 0 m) k = (rowC L x b 0 k + (x * dg b k + dg L k)) % 4294967296 := by
  induction m with
  | zero => omega
  | succ m ih =>
    rw [rowS, dg_set _ _ _ _ (by rw [rowS_length]; omega), Nat.zero_add]
    by_cases e : k = m
    · subst e; rw [if_pos rfl]
    · rw [if_neg e, ih (by omega) (by omega)]
theorem prodS_dg {q : Nat} (v : List Nat) (k : Nat) (h : k < v.length) : dg (prodS q v) k = (prodC q v k + q * dg v k) % 4294967296 := by
  have e : prodS q v = (rowS (List.replicate (1 + v.length) 0) q v 0 v.length).set (0 + v.length) (prodC q v v.length) := rfl
  rw [e, dg_set _ _ _ _ (by rw [rowS_length]; simp), if_neg (by omega), rowS_dg_lt _ _ _ _ _ h (by simp), dg_rep, Nat.add_zero]; rfl
theorem prodS_dg_last {q : Nat} (v : List Nat) : dg (prodS q v) v.length = prodC q v v.length := by
  have e : prodS q v = (rowS (List.replicate (1 + v.length) 0) q v 0 v.length).set (0 + v.length) (prodC q v v.length) := rfl
  rw [e, dg_set _ _ _ _ (by rw [rowS_length]; simp), if_pos (by omega)]

/-- b added in place, the last limb's carry kept apart. -/
def addI (a b : List Nat) : Nat → List Nat
  | 0 => a
  | k + 1 => (addI a b k).set k ((dg a k + dg b k + addC a b k) % 4294967296)
theorem addI_length (a b : List Nat) (k : Nat) : (addI a b k).length = a.length := by
  induction k with
  | zero => rfl
  | succ k ih => simp [addI, ih]
theorem addI_dg_ge (a b : List Nat) (k j : Nat) (h : k ≤ j) : dg (addI a b k) j = dg a j := by
  induction k with
  | zero => rfl
  | succ k ih =>
    by_cases hk : k < a.length
    · rw [addI, dg_set _ _ _ _ (by rw [addI_length]; exact hk), if_neg (by omega), ih (by omega)]
    · rw [addI, List.set_eq_of_length_le (by rw [addI_length]; omega), ih (by omega)]
theorem addI_lim {a : List Nat} (ha : Lim a) (b : List Nat) (k : Nat) : Lim (addI a b k) := by
  induction k with
  | zero => exact ha
  | succ k ih => exact ih.set _ _ (Nat.mod_lt _ (by omega))
theorem addI_nv (a b : List Nat) (k : Nat) (hk : k ≤ a.length) :
    nv ((addI a b k).take k) + 4294967296 ^ k * addC a b k = nv (a.take k) + nv (b.take k) := by
  induction k with
  | zero => simp [addC, nv]
  | succ k ih =>
    have h1 := ih (by omega)
    have h2 := nv_take_succ a k (by omega)
    have h3 := nv_take_succ' b k
    have h4 : nv ((addI a b (k + 1)).take (k + 1)) = nv ((addI a b k).take k) + 4294967296 ^ k * ((addC a b k + dg a k + dg b k) % 4294967296) := by
      rw [addI, take_set_succ _ _ _ (by rw [addI_length]; omega), nv_snoc, List.length_take, addI_length, Nat.min_eq_left (by omega), Nat.add_comm (dg a k + dg b k), Nat.add_assoc]
    rw [h2, h3, h4]
    have h6 : 4294967296 ^ k * ((addC a b k + dg a k + dg b k) % 4294967296 + 4294967296 * ((addC a b k + dg a k + dg b k) / 4294967296)) = 4294967296 ^ k * (addC a b k + dg a k + dg b k) := by rw [Nat.mod_add_div]
    simp only [Nat.mul_add] at h6
    rw [show addC a b (k + 1) = (addC a b k + dg a k + dg b k) / 4294967296 from rfl, Nat.pow_succ, Nat.mul_assoc]
    omega

section
variable {u v : List Nat} {n q : Nat}
/-- Nothing was borrowed in the end: the quotient was right. -/
theorem digit_right (hu : Lim u) (hv : Lim v) (hul : u.length = n + 1) (hvl : v.length = n) (hv0 : 0 < nv v) (hq : q < 4294967296) (hQ : nv u / nv v ≤ q) (hb : subB u (prodS q v) (n + 1) = 0) :
    q = nv u / nv v ∧ nv (subS u (prodS q v) (n + 1)) = nv u % nv v := by
  have h1 := subS_nv hu (prodS_lim hq hv) (n + 1) (by omega)
  rw [hb, List.take_of_length_le (by omega), List.take_of_length_le (by rw [subS_length]; omega), List.take_of_length_le (by rw [prodS_length]; omega), prodS_nv hq hv] at h1
  have h2 : q ≤ nv u / nv v := (Nat.le_div_iff_mul_le hv0).2 (by omega)
  have h3 : q = nv u / nv v := by omega
  refine ⟨h3, ?_⟩
  have h4 := Nat.div_add_mod (nv u) (nv v)
  rw [← h3, Nat.mul_comm] at h4
  omega
/-- One was borrowed: one too many; v is added back. -/
theorem digit_back (hu : Lim u) (hv : Lim v) (hul : u.length = n + 1) (hvl : v.length = n) (hv0 : 0 < nv v) (hq : q < 4294967296) (hQ : q ≤ nv u / nv v + 1) (hQ0 : nv u / nv v ≤ q) (hb : subB u (prodS q v) (n + 1) = 1) :
    q = nv u / nv v + 1 ∧ nv ((addI (subS u (prodS q v) (n + 1)) v n).set n ((dg (subS u (prodS q v) (n + 1)) n + addC (subS u (prodS q v) (n + 1)) v n) % 4294967296)) = nv u % nv v := by
  have h1 := subS_nv hu (prodS_lim hq hv) (n + 1) (by omega)
  rw [hb, List.take_of_length_le (by omega), List.take_of_length_le (by rw [subS_length]; omega), List.take_of_length_le (by rw [prodS_length]; omega), prodS_nv hq hv] at h1
  have hS := subS_lim hu (prodS q v) (n + 1)
  have hSl : (subS u (prodS q v) (n + 1)).length = n + 1 := by rw [subS_length]; exact hul
  generalize subS u (prodS q v) (n + 1) = S at *
  have h2 := nv_lt hS
  rw [hSl] at h2
  have h3 : q = nv u / nv v + 1 := by
    rcases Nat.lt_or_ge (nv u / nv v) q with h | h
    · omega
    · have h5 := (Nat.le_div_iff_mul_le hv0).1 h
      omega
  refine ⟨h3, ?_⟩
  have h4 := Nat.div_add_mod (nv u) (nv v)
  have h5 := Nat.mod_lt (nv u) hv0
  have h6 := addI_nv S v n (by omega)
  rw [List.take_of_length_le (by omega : v.length ≤ n)] at h6
  have h7 := nv_take_succ S n (by omega)
  rw [List.take_of_length_le (by omega)] at h7
  have h8 := nv_lt hv
  rw [hvl] at h8
  have e : nv ((addI S v n).set n ((dg S n + addC S v n) % 4294967296)) = nv ((addI S v n).take n) + 4294967296 ^ n * ((dg S n + addC S v n) % 4294967296) := by
    have := take_set_succ (addI S v n) n ((dg S n + addC S v n) % 4294967296) (by rw [addI_length]; omega)
    rw [List.take_of_length_le (by simp [addI_length]; omega)] at this
    rw [this, nv_snoc, List.length_take, addI_length, Nat.min_eq_left (by omega)]
  rw [e]
  have e2 : q * nv v = nv v * (nv u / nv v) + nv v := by rw [h3, Nat.add_mul, Nat.one_mul, Nat.mul_comm]
  rw [Nat.pow_succ] at h1
  have hp : 0 < 4294967296 ^ n := Nat.pow_pos (by omega)
  have h9 : nv ((addI S v n).take n) < 4294967296 ^ n := by
    have := nv_lt ((addI_lim hS v n).take n)
    rwa [List.length_take, addI_length, Nat.min_eq_left (by omega)] at this
  have hd := dg_lt hS n
  have hC := addC_le hS hv n
  -- nv S + nv v = R + B^n (dg S n + C), and it is U mod V + B^(n+1)
  have key : nv ((addI S v n).take n) + 4294967296 ^ n * (dg S n + addC S v n) = nv u % nv v + 4294967296 ^ n * 4294967296 := by
    rw [Nat.mul_add]; omega
  have h10 : dg S n + addC S v n = 4294967296 := by
    rcases Nat.lt_trichotomy (dg S n + addC S v n) 4294967296 with hh | hh | hh
    · have := Nat.mul_le_mul_left (4294967296 ^ n) (show dg S n + addC S v n + 1 ≤ 4294967296 from hh)
      rw [Nat.mul_add (4294967296 ^ n) (dg S n + addC S v n), Nat.mul_one] at this
      omega
    · exact hh
    · omega
  rw [h10] at key ⊢
  rw [Nat.mod_self, Nat.mul_zero]
  omega
end

/-- What the top limbs tell. -/
theorem knuth_facts {u v : List Nat} {n : Nat} (hu : Lim u) (hv : Lim v) (hn : 2 ≤ n) (hul : u.length = n + 1) (hvl : v.length = n) (hvt : 1 ≤ dg v (n - 1)) (hUV : nv u < nv v * 4294967296) :
    dg u n ≤ dg v (n - 1) ∧
    (∀ q rest, rest + q * dg v (n - 1) = dg u n * 4294967296 + dg u (n - 1) → rest * 4294967296 + dg u (n - 2) < q * dg v (n - 2) → nv u < q * nv v) ∧
    (∀ q rest, rest + q * dg v (n - 1) = dg u n * 4294967296 + dg u (n - 1) → q < 4294967296 → (4294967296 ≤ rest ∨ q * dg v (n - 2) ≤ rest * 4294967296 + dg u (n - 2)) → q * nv v < nv u + nv v) ∧
    (∀ Q, Q * nv v ≤ nv u → Q * dg v (n - 1) ≤ dg u n * 4294967296 + dg u (n - 1)) := by
  obtain ⟨m, rfl⟩ : ∃ m, n = m + 2 := ⟨n - 2, by omega⟩
  have hU := nv_top3 u m (by omega)
  have hV := nv_top2 v m (by omega)
  have h1 := nv_lt (hu.take m)
  have h2 := nv_lt (hv.take m)
  rw [List.length_take, Nat.min_eq_left (by omega)] at h1 h2
  simp only [show m + 2 - 1 = m + 1 from by omega, show m + 2 - 2 = m from by omega] at hvt ⊢
  refine ⟨?_, fun q rest e h => ?_, fun q rest e hq h => ?_, fun Q h => ?_⟩
  · rw [hU, hV] at hUV
    exact knuth_top h2 h1 (dg_lt hv m) hUV
  · rw [hU, hV]
    exact knuth_hi e h1 h
  · rw [hU, hV]
    exact knuth_lo e hq (dg_lt hv m) hvt h2 h
  · rw [hU, hV] at h
    exact knuth_first h1 (dg_lt hu m) (dg_lt hu (m + 1)) h
end N
end Go.Proofs.Ytmncamnlmpajbaa

/-
  Plain laws of the references' loops (riddleref01).
-/
import Derived.Test.YtmncamnlmpajbaaDivMath
namespace Go.Proofs.Ytmncamnlmpajbaa
namespace N

theorem nv_take_lt {l : List Nat} (h : Lim l) (k : Nat) : nv (l.take k) < 4294967296 ^ k := by
  have h1 := nv_lt (h.take k)
  rw [List.length_take] at h1
  exact Nat.lt_of_lt_of_le h1 (Nat.pow_le_pow_right (by omega) (Nat.min_le_left _ _))
theorem take_all {l : List Nat} {k : Nat} (h : l.length ≤ k) : l.take k = l := List.take_of_length_le h
/-- The comparison with one more digit ahead. -/
theorem cmp_hi {x y P p q : Nat} (hx : x < P) (hy : y < P) : cmpN (x + P * p) (y + P * q) = if p < q then -1 else if q < p then 1 else cmpN x y := by
  rcases Nat.lt_trichotomy p q with h | h | h
  · rw [if_pos h]
    have h1 := Nat.mul_le_mul_left P (show p + 1 ≤ q from h)
    rw [Nat.mul_add] at h1
    exact cmpN_lt (by omega)
  · subst h
    rw [if_neg (Nat.lt_irrefl _), if_neg (Nat.lt_irrefl _)]
    unfold cmpN
    simp only [Nat.add_lt_add_iff_right]
  · rw [if_neg (by omega), if_pos h]
    have h1 := Nat.mul_le_mul_left P (show q + 1 ≤ p from h)
    rw [Nat.mul_add] at h1
    exact cmpN_gt (by omega)
theorem cmp_take {a b : List Nat} (ha : Lim a) (hb : Lim b) (k : Nat) : cmpN (nv (a.take (k + 1))) (nv (b.take (k + 1))) = if dg a k < dg b k then -1 else if dg b k < dg a k then 1 else cmpN (nv (a.take k)) (nv (b.take k)) := by
  rw [nv_take_succ', nv_take_succ']
  exact cmp_hi (nv_take_lt ha k) (nv_take_lt hb k)

/-- A step of the sum. -/
theorem add_step {out a b : List Nat} {k o : Nat} (hl : out.length = k) (h : nv out + 4294967296 ^ k * o = nv (a.take k) + nv (b.take k)) :
    nv (out ++ [(dg a k + dg b k + o) % 4294967296]) + 4294967296 ^ (k + 1) * ((dg a k + dg b k + o) / 4294967296) = nv (a.take (k + 1)) + nv (b.take (k + 1)) := by
  rw [nv_snoc, hl, nv_take_succ', nv_take_succ', Nat.pow_succ, Nat.mul_assoc, Nat.add_assoc, ← Nat.mul_add, Nat.mod_add_div]
  rw [Nat.mul_add, Nat.mul_add]; omega
theorem sub_step {out a b : List Nat} {k o : Nat} (hl : out.length = k) (hp : dg a k < 4294967296) (hq : dg b k < 4294967296) (ho : o ≤ 1) (h : nv out + nv (b.take k) = nv (a.take k) + 4294967296 ^ k * o) :
    nv (out ++ [(dg a k + 4294967296 - dg b k - o) % 4294967296]) + nv (b.take (k + 1)) = nv (a.take (k + 1)) + 4294967296 ^ (k + 1) * (1 - (dg a k + 4294967296 - dg b k - o) / 4294967296) := by
  rw [nv_snoc, hl, nv_take_succ', nv_take_succ', Nat.pow_succ, Nat.mul_assoc]
  have e : (dg a k + 4294967296 - dg b k - o) % 4294967296 + dg b k + o = dg a k + 4294967296 * (1 - (dg a k + 4294967296 - dg b k - o) / 4294967296) := by omega
  have e2 := congrArg (fun t => 4294967296 ^ k * t) e
  simp only [Nat.mul_add] at e2
  omega
theorem sub_end {out a b : List Nat} {o : Nat} (hl : out.length = a.length) (hlim : Lim out) (ha : Lim a) (hle : nv b ≤ nv a) (h : nv out + nv (b.take a.length) = nv (a.take a.length) + 4294967296 ^ a.length * o) : nv out = nv a - nv b := by
  have h1 := nv_lt ha
  rw [(nv_take_small (l := b) (n := a.length) (by omega)).1, take_all (Nat.le_refl _)] at h
  have h2 := nv_lt hlim
  rw [hl] at h2
  rcases Nat.eq_zero_or_pos o with h0 | h0
  · subst h0; rw [Nat.mul_zero] at h; omega
  · have := Nat.le_mul_of_pos_right (4294967296 ^ a.length) h0
    omega
theorem times_step {out a : List Nat} {k o f m : Nat} (hl : out.length = k) (h : nv out + 4294967296 ^ k * o = nv (a.take k) * f + m) :
    nv (out ++ [(dg a k * f + o) % 4294967296]) + 4294967296 ^ (k + 1) * ((dg a k * f + o) / 4294967296) = nv (a.take (k + 1)) * f + m := by
  rw [nv_snoc, hl, nv_take_succ', Nat.pow_succ, Nat.mul_assoc, Nat.add_assoc, ← Nat.mul_add, Nat.mod_add_div, Nat.add_mul, Nat.mul_add, Nat.mul_assoc]
  omega
theorem over_lt {p f o : Nat} (hp : p < 4294967296) (hf : f < 4294967296) (ho : o < 4294967296) : p * f + o < 18446744073709551616 ∧ (p * f + o) / 4294967296 < 4294967296 := by
  have h1 := mul_lt hp hf
  omega

/-! ## Division bit by bit -/
/-- What has been drawn down when the bits from k on are in: R times a limb's part and the limb's upper bits. -/
def bitT (R d k : Nat) : Nat := R * 2 ^ (32 - k) + d / 2 ^ k
theorem bitT_top (R d : Nat) (hd : d < 4294967296) : bitT R d 32 = R := by
  unfold bitT
  rw [Nat.div_eq_of_lt (by simpa using hd)]; simp
theorem bitT_zero (R d : Nat) : bitT R d 0 = R * 4294967296 + d := by unfold bitT; simp
theorem bitT_step (R d k : Nat) (hk : k < 32) : bitT R d k = 2 * bitT R d (k + 1) + d / 2 ^ k % 2 := by
  unfold bitT
  rw [show 32 - k = (32 - (k + 1)) + 1 by omega, Nat.pow_succ, Nat.mul_add, Nat.pow_succ, ← Nat.div_div_eq_div_mul]
  have := Nat.div_add_mod (d / 2 ^ k) 2
  rw [Nat.mul_comm (2 ^ (32 - (k + 1))) 2, Nat.mul_left_comm]
  omega
theorem bit_div {t t' Y b : Nat} (hY : 0 < Y) (h : t = 2 * t' + b) (hb : b < 2) :
    (Y ≤ 2 * (t' % Y) + b → t / Y = 2 * (t' / Y) + 1 ∧ t % Y = 2 * (t' % Y) + b - Y) ∧ (2 * (t' % Y) + b < Y → t / Y = 2 * (t' / Y) ∧ t % Y = 2 * (t' % Y) + b) := by
  have h1 := Nat.div_add_mod t' Y
  have h2 := Nat.mod_lt t' hY
  have h4 : Y * (2 * (t' / Y)) = 2 * (Y * (t' / Y)) := Nat.mul_left_comm _ _ _
  constructor
  · intro h3
    have e : t = (2 * (t' % Y) + b - Y) + Y * (2 * (t' / Y) + 1) := by rw [Nat.mul_add]; omega
    rw [e, Nat.add_mul_div_left _ _ hY, Nat.add_mul_mod_self_left, Nat.div_eq_of_lt (by omega), Nat.mod_eq_of_lt (by omega)]
    exact ⟨by omega, rfl⟩
  · intro h3
    have e : t = (2 * (t' % Y) + b) + Y * (2 * (t' / Y)) := by omega
    rw [e, Nat.add_mul_div_left _ _ hY, Nat.add_mul_mod_self_left, Nat.div_eq_of_lt h3, Nat.mod_eq_of_lt h3]
    exact ⟨by omega, rfl⟩
theorem bitT_lt {R d k Y : Nat} (hk : k ≤ 32) (hR : R < Y) (hd : d < 4294967296) : bitT R d k / Y < 2 ^ (32 - k) := by
  rw [Nat.div_lt_iff_lt_mul (by omega)]
  unfold bitT
  have h1 : d / 2 ^ k < 2 ^ (32 - k) := by
    rw [Nat.div_lt_iff_lt_mul (Nat.pow_pos (by omega)), ← Nat.pow_add, show 32 - k + k = 32 by omega]; exact hd
  have h2 := Nat.mul_le_mul_right (2 ^ (32 - k)) (show R + 1 ≤ Y from hR)
  rw [Nat.add_mul, Nat.mul_comm Y] at h2
  omega
theorem bitQ_lt {R d k Y : Nat} (hk : k ≤ 32) (hR : R < Y) (hd : d < 4294967296) : bitT R d k / Y * 2 ^ k < 4294967296 := by
  have h := bitT_lt hk hR hd
  have h1 := Nat.mul_lt_mul_of_pos_right h (Nat.pow_pos (n := k) (show 0 < 2 by omega))
  rw [← Nat.pow_add, show 32 - k + k = 32 by omega] at h1
  exact h1

/-! ## The greatest common divisor by twos -/
theorem gcd_two_both (x y : Nat) (hx : x % 2 = 0) (hy : y % 2 = 0) : Nat.gcd x y = 2 * Nat.gcd (x / 2) (y / 2) := by
  conv => lhs; rw [← Nat.div_add_mod x 2, hx, ← Nat.div_add_mod y 2, hy, Nat.add_zero, Nat.add_zero]
  exact Nat.gcd_mul_left _ _ _
theorem gcd_two_left (x y : Nat) (hx : x % 2 = 0) (hy : y % 2 = 1) : Nat.gcd x y = Nat.gcd (x / 2) y := by
  conv => lhs; rw [← Nat.div_add_mod x 2, hx, Nat.add_zero]
  have h : Nat.Coprime 2 y := by
    rw [Nat.Coprime, Nat.gcd_rec, hy]; rfl
  exact Nat.Coprime.gcd_mul_left_cancel _ h
theorem gcd_two_right (x y : Nat) (hx : x % 2 = 1) (hy : y % 2 = 0) : Nat.gcd x y = Nat.gcd x (y / 2) := by
  rw [Nat.gcd_comm, gcd_two_left y x hy hx, Nat.gcd_comm]
theorem gcd_less (x y : Nat) (h : y ≤ x) : Nat.gcd x y = Nat.gcd (x - y) y := (Nat.gcd_sub_self_left h).symm
theorem ofN_dg0 {x : Nat} : dg (ofN x) 0 % 2 = x % 2 := by
  have h := nv_ofN x
  cases he : ofN x with
  | nil => rw [he] at h; rw [← h]; rfl
  | cons d r =>
    rw [he, nv_cons] at h
    rw [dg_cons_zero]; omega
theorem ofN_pos {x : Nat} (h : 0 < x) : 0 < (ofN x).length := by
  rcases Nat.eq_zero_or_pos (ofN x).length with h0 | h0
  · have := List.eq_nil_of_length_eq_zero h0
    rw [ofN_eq_nil] at this; omega
  · exact h0
end N
end Go.Proofs.Ytmncamnlmpajbaa

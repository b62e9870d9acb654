/-
  Numbers with a sign: plain laws of integers.
-/
import Derived.Test.YtiidghfkdjefgaaDoorZMade
namespace Go.Proofs.YtiidghfkdjefgaaDoor

theorem sgn_add_same (s : Bool) (x y : Nat) : sgn s (x + y) = sgn s x + sgn s y := by cases s <;> simp [sgn] <;> omega
theorem sgn_add_lt {s t : Bool} {x y : Nat} (h : s ≠ t) (hlt : x < y) : sgn t (y - x) = sgn s x + sgn t y := by
  cases s <;> cases t <;> first | exact absurd rfl h | (simp only [sgn, if_true, Bool.false_eq_true, if_false]; omega)
theorem sgn_add_ge {s t : Bool} {x y : Nat} (h : s ≠ t) (hle : y ≤ x) : sgn s (x - y) = sgn s x + sgn t y := by
  cases s <;> cases t <;> first | exact absurd rfl h | (simp only [sgn, if_true, Bool.false_eq_true, if_false]; omega)
theorem sgn_mul (s t : Bool) (x y : Nat) : sgn (s != t) (x * y) = sgn s x * sgn t y := by
  cases s <;> cases t <;> simp [sgn, Int.neg_mul, Int.mul_neg]
theorem sgn_not (s : Bool) (x : Nat) : sgn (!s) x = -sgn s x := by cases s <;> simp [sgn]
theorem sgn_false (x : Nat) : sgn false x = (x : Int) := by simp [sgn]
theorem sgn_true (x : Nat) : sgn true x = -(x : Int) := by simp [sgn]
theorem sgn_zero (s : Bool) : sgn s 0 = 0 := by cases s <;> simp [sgn]
theorem abs_sgn (s : Bool) (x : Nat) : ((sgn s x).natAbs : Int) = x := by rw [natAbs_sgn]
theorem sgn_eq_zero {s : Bool} {x : Nat} : sgn s x = 0 ↔ x = 0 := by cases s <;> simp [sgn]

/-- An order's sign. -/
def icmp (x y : Int) : Int := if x < y then -1 else if x = y then 0 else 1
theorem icmp_lt {x y : Int} (h : x < y) : icmp x y = -1 := by simp [icmp, h]
theorem icmp_eq (x : Int) : icmp x x = 0 := by simp [icmp]
theorem icmp_gt {x y : Int} (h : y < x) : icmp x y = 1 := by
  have h1 : ¬ x < y := by omega
  have h2 : ¬ x = y := by omega
  simp [icmp, h1, h2]
theorem icmp_cases (x y : Int) : (x < y ∧ icmp x y = -1) ∨ (x = y ∧ icmp x y = 0) ∨ (y < x ∧ icmp x y = 1) := by
  rcases Int.lt_trichotomy x y with h | h | h
  · exact .inl ⟨h, icmp_lt h⟩
  · subst h; exact .inr (.inl ⟨rfl, icmp_eq x⟩)
  · exact .inr (.inr ⟨h, icmp_gt h⟩)
theorem icmp_pos (x y : Nat) : icmp (sgn false x) (sgn false y) = N.cmpN x y := by
  rw [sgn_false, sgn_false]
  rcases N.cmpN_cases x y with ⟨h, e⟩ | ⟨h, e⟩ | ⟨h, e⟩
  · rw [e]; exact icmp_lt (by omega)
  · rw [e]; subst h; exact icmp_eq _
  · rw [e]; exact icmp_gt (by omega)
theorem icmp_neg (x y : Nat) : icmp (sgn true x) (sgn true y) = N.cmpN y x := by
  rw [sgn_true, sgn_true]
  rcases N.cmpN_cases y x with ⟨h, e⟩ | ⟨h, e⟩ | ⟨h, e⟩
  · rw [e]; exact icmp_lt (by omega)
  · rw [e]; subst h; exact icmp_eq _
  · rw [e]; exact icmp_gt (by omega)
/-- A number's sign. -/
def isgn (z : Int) : Int := icmp z 0
theorem isgn_sgn (s : Bool) (x : Nat) : isgn (sgn s x) = if x = 0 then 0 else if s then -1 else 1 := by
  unfold isgn
  by_cases h : x = 0
  · subst h; rw [sgn_zero, if_pos rfl]; exact icmp_eq 0
  · rw [if_neg h]
    cases s
    · rw [sgn_false]; exact icmp_gt (by omega)
    · rw [sgn_true]; exact icmp_lt (by omega)
theorem isgn_cases (z : Int) : (z < 0 ∧ isgn z = -1) ∨ (z = 0 ∧ isgn z = 0) ∨ (0 < z ∧ isgn z = 1) := icmp_cases z 0
theorem isgn_sub (x y : Int) : isgn (x - y) = icmp x y := by
  rcases icmp_cases x y with ⟨h, e⟩ | ⟨h, e⟩ | ⟨h, e⟩ <;> rw [e]
  · exact icmp_lt (by omega)
  · subst h; rw [Int.sub_self]; exact icmp_eq 0
  · exact icmp_gt (by omega)

/-- Division cut downwards, by the magnitudes'. -/
theorem fdm_uniq {a b q r : Int} (hb : b ≠ 0) (h : r + b * q = a) (hs : (0 < b → 0 ≤ r ∧ r < b) ∧ (b < 0 → b < r ∧ r ≤ 0)) : a.fdiv b = q ∧ a.fmod b = r := by
  rcases Int.lt_or_gt_of_ne hb with h0 | h0
  · exact (Int.fdiv_fmod_unique' h0).2 ⟨h, hs.2 h0⟩
  · exact (Int.fdiv_fmod_unique h0).2 ⟨h, hs.1 h0⟩
theorem fdm_go (s t : Bool) (x y : Nat) : sgn s (x % y) + sgn t y * sgn (s != t) (x / y) = sgn s x := by
  rw [← sgn_mul, show (t != (s != t)) = s by cases s <;> cases t <;> rfl, ← sgn_add_same, Nat.mod_add_div]
theorem fdm_plain {s t : Bool} {x y : Nat} (hy : 0 < y) (h : x % y = 0 ∨ s = t) :
    (sgn s x).fdiv (sgn t y) = sgn (s != t) (x / y) ∧ (sgn s x).fmod (sgn t y) = sgn s (x % y) := by
  have h1 := Nat.mod_lt x hy
  refine fdm_uniq (fun e => by rw [sgn_eq_zero] at e; omega) (fdm_go s t x y) ?_
  generalize x % y = n at *
  cases s <;> cases t <;> simp only [sgn, if_true, Bool.false_eq_true, if_false, reduceCtorEq, or_false] at h ⊢ <;> omega
theorem fdm_step {s t : Bool} {x y : Nat} (hy : 0 < y) (h0 : x % y ≠ 0) (h : s ≠ t) :
    (sgn s x).fdiv (sgn t y) = sgn (s != t) (x / y) - 1 ∧ (sgn s x).fmod (sgn t y) = sgn s (x % y) + sgn t y := by
  have h1 := Nat.mod_lt x hy
  have h2 := fdm_go s t x y
  refine fdm_uniq (fun e => by rw [sgn_eq_zero] at e; omega) ?_ ?_
  · rw [Int.mul_sub, Int.mul_one]; omega
  · clear h2
    generalize x % y = n at *
    cases s <;> cases t <;> first | exact absurd rfl h | (simp only [sgn, if_true, Bool.false_eq_true, if_false]; omega)
end Go.Proofs.YtiidghfkdjefgaaDoor

/-
  The contracts of nat once more, over values: for the laws' walks.
-/
import Derived.Test.YtiidghfkdjefgaaDoorParse
import Derived.Test.YtiidghfkdjefgaaDoorAdd
namespace Go.Proofs.YtiidghfkdjefgaaDoor
open Go.RowKit

/-- v is a slice that reads as limbs of the number x, at most K of them. -/
def Val (w : World) (v : Value) (K x : Nat) : Prop := ∃ A n c l, v = .slice A n c ∧ Sl w A n c l ∧ N.nv l = x ∧ n ≤ K
/-- The same of the bare list. -/
def Bar (w : World) (v : Value) (K x : Nat) : Prop := ∃ A n c, v = .slice A n c ∧ Sl w A n c (N.ofN x) ∧ n ≤ K
/-- v is the bare list of x, in memory made since w. -/
def Fre (w w' : World) (v : Value) (K x : Nat) : Prop := ∃ g n c, v = .slice (some ⟨g, 0, none⟩) n c ∧ Own w' w.heap.size g n c (N.ofN x) ∧ n ≤ K

section
variable {w w' : World} {v : Value} {K x : Nat}
theorem Val.below (h : Val w v K x) (hb : Below w.heap.size w w') : Val w' v K x := by
  obtain ⟨A, n, c, l, e, hs, hx, hn⟩ := h
  exact ⟨A, n, c, l, e, hs.below hb, hx, hn⟩
theorem Bar.below (h : Bar w v K x) (hb : Below w.heap.size w w') : Bar w' v K x := by
  obtain ⟨A, n, c, e, hs, hn⟩ := h
  exact ⟨A, n, c, e, hs.below hb, hn⟩
theorem Bar.val (h : Bar w v K x) : Val w v K x := by
  obtain ⟨A, n, c, e, hs, hn⟩ := h
  exact ⟨A, n, c, _, e, hs, N.nv_ofN x, hn⟩
theorem Fre.bar (h : Fre w w' v K x) : Bar w' v K x := by
  obtain ⟨g, n, c, e, ho, hn⟩ := h
  exact ⟨_, n, c, e, ho.sl, hn⟩
theorem Val.lt (h : Val w v K x) : x < 4294967296 ^ K := by
  obtain ⟨A, n, c, l, e, hs, hx, hn⟩ := h
  have h1 := N.nv_lt hs.lim
  rw [hs.len, hx] at h1
  exact Nat.lt_of_lt_of_le h1 (Nat.pow_le_pow_right (by omega) hn)
theorem fre_of {g n c : Nat} (ho : Own w' w.heap.size g n c (N.ofN x)) (h : x < 4294967296 ^ K) : Fre w w' (.slice (some ⟨g, 0, none⟩) n c) K x :=
  ⟨g, n, c, rfl, ho, by rw [← ho.len]; exact N.ofN_length_le h⟩
end

theorem of_v (w : World) (n : Nat) (z : Int) (hz : z = (n : Nat)) (hn : n < 18446744073709551616) :
    Calls Tryd.prog 71 #[.int .u64 z] w fun e w' => ∃ v, e = .returned v ∧ Fre w w' v 2 n ∧ Below w.heap.size w w' := by
  subst hz
  refine (of_any w n hn).mono ?_
  rintro e w' ⟨g, n', c', rfl, ho, hb⟩
  exact ⟨_, rfl, fre_of ho (by simpa using hn), hb⟩
section
variable {w : World} {a b : Value} {K L x y : Nat}
theorem cmp_v (ha : Val w a K x) (hb : Val w b L y) (hK : K ≤ 9223372036854775807) (hL : L ≤ 9223372036854775807) :
    Calls Tryd.prog 64 #[a, b] w fun e w' => e = .returned (.int .i64 (N.cmpN x y)) ∧ Below w.heap.size w w' := by
  obtain ⟨A, n, c, l, rfl, hs, rfl, hn⟩ := ha
  obtain ⟨B, m, d, k, rfl, ht, rfl, hm⟩ := hb
  exact cmp_any w A n c l B m d k hs ht (by omega) (by omega)
theorem add_v (ha : Val w a K x) (hb : Val w b L y) (hKL : K + L < 35184372088832) :
    Calls Tryd.prog 63 #[a, b] w fun e w' => ∃ v, e = .returned v ∧ Fre w w' v (K + L + 1) (x + y) ∧ Below w.heap.size w w' := by
  have h1 := ha.lt
  have h2 := hb.lt
  obtain ⟨A, n, c, l, rfl, hs, rfl, hn⟩ := ha
  obtain ⟨B, m, d, k, rfl, ht, rfl, hm⟩ := hb
  refine (add_any w A n c l B m d k hs ht (by omega) (by omega)).mono ?_
  rintro e w' ⟨g, n', c', rfl, ho, hb⟩
  refine ⟨_, rfl, fre_of ho ?_, hb⟩
  have h3 : 4294967296 ^ K ≤ 4294967296 ^ (K + L) := Nat.pow_le_pow_right (by omega) (by omega)
  have h4 : 4294967296 ^ L ≤ 4294967296 ^ (K + L) := Nat.pow_le_pow_right (by omega) (by omega)
  rw [Nat.pow_succ]; omega
theorem sub_v (ha : Val w a K x) (hb : Val w b L y) (hK : K ≤ 35184372088832) (hL : L ≤ 35184372088832) (hle : y ≤ x) :
    Calls Tryd.prog 65 #[a, b] w fun e w' => ∃ v, e = .returned (.tuple #[v, .int .i64 0]) ∧ Fre w w' v K (x - y) ∧ Below w.heap.size w w' := by
  have h1 := ha.lt
  obtain ⟨A, n, c, l, rfl, hs, rfl, hn⟩ := ha
  obtain ⟨B, m, d, k, rfl, ht, rfl, hm⟩ := hb
  refine (sub_ok w A n c l B m d k hs ht (by omega) (by omega) hle).mono ?_
  rintro e w' ⟨g, n', c', rfl, ho, hb⟩
  exact ⟨_, rfl, fre_of ho (by omega), hb⟩
theorem sub_n (ha : Val w a K x) (hb : Val w b L y) (hK : K ≤ 9223372036854775807) (hL : L ≤ 9223372036854775807) (hlt : x < y) :
    Calls Tryd.prog 65 #[a, b] w fun e w' => e = .returned (.tuple #[.slice none 0 0, .int .i64 10]) ∧ Below w.heap.size w w' := by
  obtain ⟨A, n, c, l, rfl, hs, rfl, hn⟩ := ha
  obtain ⟨B, m, d, k, rfl, ht, rfl, hm⟩ := hb
  exact sub_neg w A n c l B m d k hs ht (by omega) (by omega) hlt
theorem mul_v (ha : Val w a K x) (hb : Val w b L y) (hKL : K + L ≤ 35184372088832) :
    Calls Tryd.prog 66 #[a, b] w fun e w' => ∃ v, e = .returned v ∧ Fre w w' v (K + L) (x * y) ∧ Below w.heap.size w w' := by
  have h1 := ha.lt
  have h2 := hb.lt
  obtain ⟨A, n, c, l, rfl, hs, rfl, hn⟩ := ha
  obtain ⟨B, m, d, k, rfl, ht, rfl, hm⟩ := hb
  refine (mul_any w A n c l B m d k hs ht (by omega)).mono ?_
  rintro e w' ⟨g, n', c', rfl, ho, hb⟩
  refine ⟨_, rfl, fre_of ho ?_, hb⟩
  rw [Nat.pow_add]
  rcases Nat.eq_zero_or_pos (N.nv k) with h0 | h0
  · rw [h0, Nat.mul_zero]; exact Nat.mul_pos (Nat.pow_pos (by omega)) (Nat.pow_pos (by omega))
  · exact Nat.mul_lt_mul_of_lt_of_le h1 (Nat.le_of_lt h2) (by omega)
theorem dm_v (ha : Val w a K x) (hb : Val w b L y) (hK : K ≤ 17592186044416) (hL : L ≤ 17592186044416) (h0 : 0 < y) :
    Calls Tryd.prog 52 #[a, b] w fun e w' => ∃ q r, e = .returned (.tuple #[q, r, .int .i64 0]) ∧ Fre w w' q K (x / y) ∧ Fre w w' r L (x % y) ∧ (∀ g n c g' n' c', q = .slice (some ⟨g, 0, none⟩) n c → r = .slice (some ⟨g', 0, none⟩) n' c' → g < g') ∧ Below w.heap.size w w' := by
  have h1 := ha.lt
  have h2 := hb.lt
  obtain ⟨A, n, c, l, rfl, hs, rfl, hn⟩ := ha
  obtain ⟨B, m, d, k, rfl, ht, rfl, hm⟩ := hb
  refine (dm_ok w A n c l B m d k hs ht (by omega) (by omega) h0).mono ?_
  rintro e w' ⟨g1, n1, c1, g2, n2, c2, rfl, ho1, ho2, hlt, hb⟩
  refine ⟨_, _, rfl, fre_of ho1 (Nat.lt_of_le_of_lt (Nat.div_le_self _ _) h1), fre_of ho2 (Nat.lt_trans (Nat.mod_lt _ h0) h2), ?_, hb⟩
  intro g n c g' n' c' e1 e2
  injection e1 with e1; injection e1 with e1; injection e1 with e1
  injection e2 with e2; injection e2 with e2; injection e2 with e2
  omega
theorem dm_z (ha : Val w a K x) (hb : Val w b L y) (hK : K ≤ 9223372036854775807) (hL : L ≤ 9223372036854775807) (h0 : y = 0) :
    Calls Tryd.prog 52 #[a, b] w fun e w' => e = .returned (.tuple #[.slice none 0 0, .slice none 0 0, .int .i64 11]) ∧ w = w' := by
  obtain ⟨A, n, c, l, rfl, hs, rfl, hn⟩ := ha
  obtain ⟨B, m, d, k, rfl, ht, rfl, hm⟩ := hb
  exact dm_zero w A n c l B m d k hs ht (by omega) (by omega) h0
theorem gcd_v (ha : Val w a K x) (hb : Val w b L y) (hK : K ≤ 17592186044416) (hL : L ≤ 17592186044416) :
    Calls Tryd.prog 74 #[a, b] w fun e w' => ∃ v, e = .returned v ∧ Fre w w' v (K + L) (Nat.gcd x y) ∧ Below w.heap.size w w' := by
  have h1 := ha.lt
  have h2 := hb.lt
  obtain ⟨A, n, c, l, rfl, hs, rfl, hn⟩ := ha
  obtain ⟨B, m, d, k, rfl, ht, rfl, hm⟩ := hb
  refine (gcd_any w A n c l B m d k hs ht (by omega) (by omega)).mono ?_
  rintro e w' ⟨g, n', c', rfl, ho, hb⟩
  refine ⟨_, rfl, fre_of ho ?_, hb⟩
  have h3 : 4294967296 ^ K ≤ 4294967296 ^ (K + L) := Nat.pow_le_pow_right (by omega) (by omega)
  have h4 : 4294967296 ^ L ≤ 4294967296 ^ (K + L) := Nat.pow_le_pow_right (by omega) (by omega)
  rcases Nat.eq_zero_or_pos (N.nv l) with h | h
  · rw [h, Nat.gcd_zero_left]; omega
  · have := Nat.gcd_le_left (N.nv k) h; omega
theorem lcm_v (ha : Val w a K x) (hb : Val w b L y) (hK : K ≤ 8796093022208) (hL : L ≤ 8796093022208) :
    Calls Tryd.prog 76 #[a, b] w fun e w' => ∃ v, e = .returned v ∧ Fre w w' v (K + L) (Nat.lcm x y) ∧ Below w.heap.size w w' := by
  have h1 := ha.lt
  have h2 := hb.lt
  obtain ⟨A, n, c, l, rfl, hs, rfl, hn⟩ := ha
  obtain ⟨B, m, d, k, rfl, ht, rfl, hm⟩ := hb
  refine (lcm_any w A n c l B m d k hs ht (by omega) (by omega)).mono ?_
  rintro e w' ⟨g, n', c', rfl, ho, hb⟩
  refine ⟨_, rfl, fre_of ho ?_, hb⟩
  have h5 : Nat.lcm (N.nv l) (N.nv k) ≤ N.nv l * N.nv k := Nat.div_le_self _ _
  rw [Nat.pow_add]
  rcases Nat.eq_zero_or_pos (N.nv k) with h0 | h0
  · have h6 : Nat.lcm (N.nv l) (N.nv k) ≤ 0 := by rw [h0, Nat.mul_zero] at h5; rw [h0]; exact h5
    exact Nat.lt_of_le_of_lt h6 (Nat.mul_pos (Nat.pow_pos (by omega)) (Nat.pow_pos (by omega)))
  · exact Nat.lt_of_le_of_lt h5 (Nat.mul_lt_mul_of_lt_of_le h1 (Nat.le_of_lt h2) (by omega))
theorem text_v (ha : Val w a K x) (hK : K ≤ 1099511627776) :
    Calls Tryd.prog 61 #[a] w fun e w' => e = .returned (.string ⟨(N.txt x).toArray⟩) ∧ Below w.heap.size w w' := by
  obtain ⟨A, n, c, l, rfl, hs, rfl, hn⟩ := ha
  exact text_any w A n c l hs (by omega)
end
end Go.Proofs.YtiidghfkdjefgaaDoor

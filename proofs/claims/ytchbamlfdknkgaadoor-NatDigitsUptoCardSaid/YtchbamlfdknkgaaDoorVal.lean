/-
  The contracts of nat once more, over values: for the laws' walks. riddlelaw01.same.
-/
import Derived.Test.YtchbamlfdknkgaaDoorParse
import Derived.Test.YtchbamlfdknkgaaDoorAdd
namespace Go.Proofs.YtchbamlfdknkgaaDoor
open Go.RowKit

/-- v is a slice that reads as limbs of the number x, at most K of them. -/
def Val (w : World) (v : Value) (K x : Nat) : Prop := ∃ A n c l, v = .slice A n c ∧ Sl w A n c l ∧ N.nv l = x ∧ n ≤ K
/-- The same of the bare list. -/
def Bar (w : World) (v : Value) (K x : Nat) : Prop := ∃ A n c, v = .slice A n c ∧ Sl w A n c (N.ofN x) ∧ n ≤ K
/-- v is the bare list of x, in memory made since w. -/
def Fre (w w' : World) (v : Value) (K x : Nat) : Prop := ∃ g n c, v = .slice (some ⟨g, 0, none⟩) n c ∧ Own w' w.heap.size g n c (N.ofN x) ∧ n ≤ K

section
variable {w w' : World} {v : Value} {K x : Nat}
theorem Val.below (h : Val w v K x) (hb : Below w.heap.size w w') : Val w' v K x := by
  obtain ⟨A, n, c, l, e, hs, hx, hn⟩ := h
  exact ⟨A, n, c, l, e, hs.below hb, hx, hn⟩
theorem Bar.below (h : Bar w v K x) (hb : Below w.heap.size w w') : Bar w' v K x := by
  obtain ⟨A, n, c, e, hs, hn⟩ := h
  exact ⟨A, n, c, e, hs.below hb, hn⟩
theorem Bar.val (h : Bar w v K x) : Val w v K x := by
  obtain ⟨A, n, c, e, hs, hn⟩ := h
  exact ⟨A, n, c, _, e, hs, N.nv_ofN x, hn⟩
theorem Fre.bar (h : Fre w w' v K x) : Bar w' v K x := by
  obtain ⟨g, n, c, e, ho, hn⟩ := h
  exact ⟨_, n, c, e, ho.sl, hn⟩
theorem Val.lt (h : Val w v K x) : x < 4294967296 ^ K := by
  obtain ⟨A, n, c, l, e, hs, hx, hn⟩ := h
  have h1 := N.nv_lt hs.lim
  rw [hs.len, hx] at h1
  exact Nat.lt_of_lt_of_le h1 (Nat.pow_le_pow_right (by omega) hn)
theorem fre_of {g n c : Nat} (ho : Own w' w.heap.size g n c (N.ofN x)) (h : x < 4294967296 ^ K) : Fre w w' (.slice (some ⟨g, 0, none⟩) n c) K x :=
  ⟨g, n, c, rfl, ho, by rw [← ho.len]; exact N.ofN_length_le h⟩
end

theorem of_v (w : World) (n : Nat) (z : Int) (hz : z = (n : Nat)) (hn : n < 18446744073709551616) :
    Calls Tryd.prog 46 #[.int .u64 z] w fun e w' => ∃ v, e = .returned v ∧ Fre w w' v 2 n ∧ Below w.heap.size w w' := by
  subst hz
  refine (of_any w n hn).mono ?_
  rintro e w' ⟨g, n', c', rfl, ho, hb⟩
  exact ⟨_, rfl, fre_of ho (by simpa using hn), hb⟩
section
variable {w : World} {a b : Value} {K L x y : Nat}
theorem cmp_v (ha : Val w a K x) (hb : Val w b L y) (hK : K ≤ 9223372036854775807) (hL : L ≤ 9223372036854775807) :
    Calls Tryd.prog 44 #[a, b] w fun e w' => e = .returned (.int .i64 (N.cmpN x y)) ∧ Below w.heap.size w w' := by
  obtain ⟨A, n, c, l, rfl, hs, rfl, hn⟩ := ha
  obtain ⟨B, m, d, k, rfl, ht, rfl, hm⟩ := hb
  exact cmp_any w A n c l B m d k hs ht (by omega) (by omega)
theorem add_v (ha : Val w a K x) (hb : Val w b L y) (hKL : K + L < 35184372088832) :
    Calls Tryd.prog 56 #[a, b] w fun e w' => ∃ v, e = .returned v ∧ Fre w w' v (K + L + 1) (x + y) ∧ Below w.heap.size w w' := by
  have h1 := ha.lt
  have h2 := hb.lt
  obtain ⟨A, n, c, l, rfl, hs, rfl, hn⟩ := ha
  obtain ⟨B, m, d, k, rfl, ht, rfl, hm⟩ := hb
  refine (add_any w A n c l B m d k hs ht (by omega) (by omega)).mono ?_
  rintro e w' ⟨g, n', c', rfl, ho, hb⟩
  refine ⟨_, rfl, fre_of ho ?_, hb⟩
  have h3 : 4294967296 ^ K ≤ 4294967296 ^ (K + L) := Nat.pow_le_pow_right (by omega) (by omega)
  have h4 : 4294967296 ^ L ≤ 4294967296 ^ (K + L) := Nat.pow_le_pow_right (by omega) (by omega)
  rw [Nat.pow_succ]; omega
theorem sub_v (ha : Val w a K x) (hb : Val w b L y) (hK : K ≤ 35184372088832) (hL : L ≤ 35184372088832) (hle : y ≤ x) :
    Calls Tryd.prog 58 #[a, b] w fun e w' => ∃ v, e = .returned (.tuple #[v, .int .i64 0]) ∧ Fre w w' v K (x - y) ∧ Below w.heap.size w w' := by
  have h1 := ha.lt
  obtain ⟨A, n, c, l, rfl, hs, rfl, hn⟩ := ha
  obtain ⟨B, m, d, k, rfl, ht, rfl, hm⟩ := hb
  refine (sub_ok w A n c l B m d k hs ht (by omega) (by omega) hle).mono ?_
  rintro e w' ⟨g, n', c', rfl, ho, hb⟩
  exact ⟨_, rfl, fre_of ho (by omega), hb⟩
theorem sub_n (ha : Val w a K x) (hb : Val w b L y) (hK : K ≤ 9223372036854775807) (hL : L ≤ 9223372036854775807) (hlt : x < y) :
    Calls Tryd.prog 58 #[a, b] w fun e w' => e = .returned (.tuple #[.slice none 0 0, .int .i64 10]) ∧ Below w.heap.size w w' := by
  obtain ⟨A, n, c, l, rfl, hs, rfl, hn⟩ := ha
  obtain ⟨B, m, d, k, rfl, ht, rfl, hm⟩ := hb
  exact sub_neg w A n c l B m d k hs ht (by omega) (by omega) hlt
theorem mul_v (ha : Val w a K x) (hb : Val w b L y) (hKL : K + L ≤ 35184372088832) :
    Calls Tryd.prog 39 #[a, b] w fun e w' => ∃ v, e = .returned v ∧ Fre w w' v (K + L) (x * y) ∧ Below w.heap.size w w' := by
  have h1 := ha.lt
  have h2 := hb.lt
  obtain ⟨A, n, c, l, rfl, hs, rfl, hn⟩ := ha
  obtain ⟨B, m, d, k, rfl, ht, rfl, hm⟩ := hb
  refine (mul_any w A n c l B m d k hs ht (by omega)).mono ?_
  rintro e w' ⟨g, n', c', rfl, ho, hb⟩
  refine ⟨_, rfl, fre_of ho ?_, hb⟩
  rw [Nat.pow_add]
  rcases Nat.eq_zero_or_pos (N.nv k) with h0 | h0
  · rw [h0, Nat.mul_zero]; exact Nat.mul_pos (Nat.pow_pos (by omega)) (Nat.pow_pos (by omega))
  · exact Nat.mul_lt_mul_of_lt_of_le h1 (Nat.le_of_lt h2) (by omega)
theorem dm_v (ha : Val w a K x) (hb : Val w b L y) (hK : K ≤ 17592186044416) (hL : L ≤ 17592186044416) (h0 : 0 < y) :
    Calls Tryd.prog 34 #[a, b] w fun e w' => ∃ q r, e = .returned (.tuple #[q, r, .int .i64 0]) ∧ Fre w w' q K (x / y) ∧ Fre w w' r L (x % y) ∧ (∀ g n c g' n' c', q = .slice (some ⟨g, 0, none⟩) n c → r = .slice (some ⟨g', 0, none⟩) n' c' → g < g') ∧ Below w.heap.size w w' := by
  have h1 := ha.lt
  have h2 := hb.lt
  obtain ⟨A, n, c, l, rfl, hs, rfl, hn⟩ := ha
  obtain ⟨B, m, d, k, rfl, ht, rfl, hm⟩ := hb
  refine (dm_ok w A n c l B m d k hs ht (by omega) (by omega) h0).mono ?_
  rintro e w' ⟨g1, n1, c1, g2, n2, c2, rfl, ho1, ho2, hlt, hb⟩
  refine ⟨_, _, rfl, fre_of ho1 (Nat.lt_of_le_of_lt (Nat.div_le_self _ _) h1), fre_of ho2 (Nat.lt_trans (Nat.mod_lt _ h0) h2), ?_, hb⟩
  intro g n c g' n' c' e1 e2
  injection e1 with e1; injection e1 with e1; injection e1 with e1
  injection e2 with e2; injection e2 with e2; injection e2 with e2
  omega
theorem dm_z (ha : Val w a K x) (hb : Val w b L y) (hK : K ≤ 9223372036854775807) (hL : L ≤ 9223372036854775807) (h0 : y = 0) :
    Calls Tryd.prog 34 #[a, b] w fun e w' => e = .returned (.tuple #[.slice none 0 0, .slice none 0 0, .int .i64 11]) ∧ w = w' := by
  obtain ⟨A, n, c, l, rfl, hs, rfl, hn⟩ := ha
  obtain ⟨B, m, d, k, rfl, ht, rfl, hm⟩ := hb
  exact dm_zero w A n c l B m d k hs ht (by omega) (by omega) h0
theorem gcd_v (ha : Val w a K x) (hb : Val w b L y) (hK : K ≤ 17592186044416) (hL : L ≤ 17592186044416) :
    Calls Tryd.prog 52 #[a, b] w fun e w' => ∃ v, e = .returned v ∧ Fre w w' v (K + L) (Nat.gcd x y) ∧ Below w.heap.size w w' := by
  have h1 := ha.lt
  have h2 := hb.lt
  obtain ⟨A, n, c, l, rfl, hs, rfl, hn⟩ := ha
  obtain ⟨B, m, d, k, rfl, ht, rfl, hm⟩ := hb
  refine (gcd_any w A n c l B m d k hs ht (by omega) (by omega)).mono ?_
  rintro e w' ⟨g, n', c', rfl, ho, hb⟩
  refine ⟨_, rfl, fre_of ho ?_, hb⟩
  have h3 : 4294967296 ^ K ≤ 4294967296 ^ (K + L) := Nat.pow_le_pow_right (by omega) (by omega)
  have h4 : 4294967296 ^ L ≤ 4294967296 ^ (K + L) := Nat.pow_le_pow_right (by omega) (by omega)
  rcases Nat.eq_zero_or_pos (N.nv l) with h | h
  · rw [h, Nat.gcd_zero_left]; omega
  · have := Nat.gcd_le_left (N.nv k) h; omega
theorem lcm_v (ha : Val w a K x) (hb : Val w b L y) (hK : K ≤ 8796093022208) (hL : L ≤ 8796093022208) :
    Calls Tryd.prog 54 #[a, b] w fun e w' => ∃ v, e = .returned v ∧ Fre w w' v (K + L) (Nat.lcm x y) ∧ Below w.heap.size w w' := by
  have h1 := ha.lt
  have h2 := hb.lt
  obtain ⟨A, n, c, l, rfl, hs, rfl, hn⟩ := ha
  obtain ⟨B, m, d, k, rfl, ht, rfl, hm⟩ := hb
  refine (lcm_any w A n c l B m d k hs ht (by omega) (by omega)).mono ?_
  rintro e w' ⟨g, n', c', rfl, ho, hb⟩
  refine ⟨_, rfl, fre_of ho ?_, hb⟩
  have h5 : Nat.lcm (N.nv l) (N.nv k) ≤ N.nv l * N.nv k := Nat.div_le_self _ _
  rw [Nat.pow_add]
  rcases Nat.eq_zero_or_pos (N.nv k) with h0 | h0
  · have h6 : Nat.lcm (N.nv l) (N.nv k) ≤ 0 := by rw [h0, Nat.mul_zero] at h5; rw [h0]; exact h5
    exact Nat.lt_of_le_of_lt h6 (Nat.mul_pos (Nat.pow_pos (by omega)) (Nat.pow_pos (by omega)))
  · exact Nat.lt_of_le_of_lt h5 (Nat.mul_lt_mul_of_lt_of_le h1 (Nat.le_of_lt h2) (by omega))
theorem text_v (ha : Val w a K x) (hK : K ≤ 1099511627776) :
    Calls Tryd.prog 42 #[a] w fun e w' => e = .returned (.string ⟨(N.txt x).toArray⟩) ∧ Below w.heap.size w w' := by
  obtain ⟨A, n, c, l, rfl, hs, rfl, hn⟩ := ha
  exact text_any w A n c l hs (by omega)
end
/-- How many binary digits. -/
def bitsM (x : Nat) : Nat := if x = 0 then 0 else bitsN x
theorem bits_v {w : World} {a : Value} {K x : Nat} (ha : Val w a K x) (hK : K ≤ 281474976710656) :
    Calls Tryd.prog 48 #[a] w fun e w' => e = .returned (.int .i64 (bitsM x : Nat)) ∧ w = w' := by
  obtain ⟨A, n, c, l, rfl, hs, rfl, hn⟩ := ha
  unfold bitsM
  rcases Nat.eq_zero_or_pos (N.nv l) with h | h
  · rw [if_pos h]; exact bits_zero w A n c l hs (by omega) h
  · rw [if_neg (by omega)]; exact bits_pos w A n c l hs (by omega) h
theorem bitsM_zero : bitsM 0 = 0 := rfl
theorem bitsM_pos {x : Nat} (h : 0 < x) : 1 ≤ bitsM x ∧ 2 ^ (bitsM x - 1) ≤ x ∧ x < 2 ^ bitsM x := by
  have hb := N.bare_ofN x
  have hl0 : (N.ofN x).length ≠ 0 := fun e => by
    have := List.eq_nil_of_length_eq_zero e
    rw [N.ofN_eq_nil] at this; omega
  have hv := N.nv_take_succ (N.ofN x) ((N.ofN x).length - 1) (by omega)
  rw [show (N.ofN x).length - 1 + 1 = (N.ofN x).length from by omega, List.take_length, N.nv_ofN] at hv
  have hlt := N.nv_lt ((N.lim_ofN x).take ((N.ofN x).length - 1))
  rw [List.length_take, Nat.min_eq_left (by omega)] at hlt
  have hd := N.dg_lt (N.lim_ofN x) ((N.ofN x).length - 1)
  have hd0 : 0 < N.dg (N.ofN x) ((N.ofN x).length - 1) := by
    rcases hb with h1 | h1
    · rw [h1] at hl0; simp at hl0
    · omega
  unfold bitsM bitsN
  rw [if_neg (by omega)]
  generalize (N.ofN x).length - 1 = k at *
  generalize N.dg (N.ofN x) k = d at *
  obtain ⟨h2, h3, h4⟩ := Lib.bitLenAux_bounds 64 d (by omega) (by omega)
  change 1 ≤ Lib.bitLen d at h2
  change 2 ^ (Lib.bitLen d - 1) ≤ d at h3
  change d < 2 ^ Lib.bitLen d at h4
  generalize Lib.bitLen d = j at *
  have hp : (4294967296 : Nat) ^ k = 2 ^ (32 * k) := by rw [Nat.pow_mul]
  rw [hp] at hv hlt
  refine ⟨by omega, ?_, ?_⟩
  · rw [show 32 * k + j - 1 = 32 * k + (j - 1) from by omega, Nat.pow_add]
    have := Nat.mul_le_mul_left (2 ^ (32 * k)) h3
    omega
  · rw [Nat.pow_add]
    have := Nat.mul_le_mul_left (2 ^ (32 * k)) (show d + 1 ≤ 2 ^ j from h4)
    rw [Nat.mul_add] at this
    omega

set_option maxHeartbeats 400000 in
theorem same_any (w : World) (A : Option Addr) (n c : Nat) (a : List Nat) (B : Option Addr) (d : Nat) (ha : Sl w A n c a) (hb : Sl w B n d a) (hn : n ≤ 9223372036854775807) :
    Calls Tryd.prog 51 #[.slice A n c, .slice B n d] w fun e w' => e = .returned (.bool true) ∧ Below w.heap.size w w' := by
  have t0 : ((n : Int) != n) = false := by simp
  go_enter Tryd.func51, Tryd.ntmps51
  go_wp2_with fail
  go_loopg [5] n (fun gk v5 wr => ∃ k : Nat, gk + k = n ∧ v5 = .int .i64 (k : Nat) ∧ Below w.heap.size w wr)
  case atStart => exact ⟨0, rfl, rfl, Below.refl _ _⟩
  case round =>
    obtain ⟨k, hk, rfl, hbw⟩ := hrel
    by_cases hkn : k < n
    · obtain ⟨b1, o1, rfl, hc1⟩ := (ha.below hbw).cells (by omega)
      obtain ⟨b2, o2, rfl, hc2⟩ := (hb.below hbw).cells (by omega)
      have h1 := hc1 k hkn
      have h2 := hc2 k hkn
      clear hc1 hc2
      have h0 : (0 : Int) ≤ k := by omega
      have hkn' : (k : Int) < n := by omega
      have t1 : ((N.dg a k : Int) != (N.dg a k : Int)) = false := by simp
      go_wp2_with fail
      go_quiet (fail)
      go_wp2_with fail
      go_roundg (gk - 1)
      case measure => omega
      case rel => exact ⟨k + 1, by omega, by go_num, below_drewN hbw _⟩
    · obtain rfl : k = n := by omega
      go_wp2_with fail
      go_ret
      exact ⟨rfl, hbw⟩
theorem same_v {w : World} {a b : Value} {K L x y : Nat} (ha : Bar w a K x) (hb : Bar w b L y) (hK : K ≤ 9223372036854775807) (e : x = y) :
    Calls Tryd.prog 51 #[a, b] w fun e w' => e = .returned (.bool true) ∧ Below w.heap.size w w' := by
  subst e
  obtain ⟨A, n, c, rfl, hs, hn⟩ := ha
  obtain ⟨B, m, d, rfl, ht, hm⟩ := hb
  obtain rfl : n = m := by have := hs.len; have := ht.len; omega
  exact same_any w A n c _ B d hs ht (by omega)
end Go.Proofs.YtchbamlfdknkgaaDoor

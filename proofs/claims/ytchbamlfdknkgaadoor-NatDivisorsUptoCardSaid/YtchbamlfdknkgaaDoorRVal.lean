/-
  The references' and the law's helpers' contracts once more, over values: for the laws' walks.
-/
import Derived.Test.YtchbamlfdknkgaaDoorLend
import Derived.Deep.RegionHeld3
namespace Go.Proofs.YtchbamlfdknkgaaDoor
open Go.RowKit

section
variable {w : World} {a b : Value} {K L x y : Nat}
theorem own_bar {w' : World} {g n c : Nat} (h : Own w' w.heap.size g n c (N.ofN x)) (hx : x < 4294967296 ^ K) : Bar w' (.slice (some ⟨g, 0, none⟩) n c) K x := (fre_of h hx).bar
theorem pow_le_add (K L : Nat) : 4294967296 ^ K ≤ 4294967296 ^ (K + L) ∧ 4294967296 ^ L ≤ 4294967296 ^ (K + L) :=
  ⟨Nat.pow_le_pow_right (by omega) (by omega), Nat.pow_le_pow_right (by omega) (by omega)⟩
theorem rtrim_v (ha : Val w a K x) (hK : K ≤ 35184372088832) :
    Calls Tryd.prog 36 #[a] w fun e w' => ∃ v, e = .returned v ∧ Bar w' v K x ∧ Below w.heap.size w w' := by
  have h1 := ha.lt
  obtain ⟨A, n, c, l, rfl, hs, rfl, hn⟩ := ha
  refine (rtrim_any w A n c l hs (by omega)).mono ?_
  rintro e w' ⟨g, n', c', rfl, ho, hb⟩
  exact ⟨_, rfl, own_bar ho h1, hb⟩
theorem rcmp_v (ha : Val w a K x) (hb : Val w b L y) (hK : K ≤ 35184372088832) (hL : L ≤ 35184372088832) :
    Calls Tryd.prog 57 #[a, b] w fun e w' => e = .returned (.int .i64 (N.cmpN x y)) ∧ w = w' := by
  obtain ⟨A, n, c, l, rfl, hs, rfl, hn⟩ := ha
  obtain ⟨B, m, d, k, rfl, ht, rfl, hm⟩ := hb
  exact rcmp_any w A n c l B m d k hs ht (by omega) (by omega)
theorem radd_v (ha : Val w a K x) (hb : Val w b L y) (hK : K ≤ 17592186044416) (hL : L ≤ 17592186044416) :
    Calls Tryd.prog 60 #[a, b] w fun e w' => ∃ v, e = .returned v ∧ Bar w' v (K + L + 1) (x + y) ∧ Below w.heap.size w w' := by
  have h1 := ha.lt
  have h2 := hb.lt
  obtain ⟨A, n, c, l, rfl, hs, rfl, hn⟩ := ha
  obtain ⟨B, m, d, k, rfl, ht, rfl, hm⟩ := hb
  refine (radd_any w A n c l B m d k hs ht (by omega) (by omega)).mono ?_
  rintro e w' ⟨g, n', c', rfl, ho, hb⟩
  obtain ⟨h3, h4⟩ := pow_le_add K L
  exact ⟨_, rfl, own_bar ho (by rw [Nat.pow_succ]; omega), hb⟩
theorem rsub_v (ha : Val w a K x) (hb : Val w b L y) (hK : K ≤ 17592186044416) (hL : L ≤ 17592186044416) (hle : y ≤ x) :
    Calls Tryd.prog 59 #[a, b] w fun e w' => ∃ v, e = .returned v ∧ Bar w' v K (x - y) ∧ Below w.heap.size w w' := by
  have h1 := ha.lt
  obtain ⟨A, n, c, l, rfl, hs, rfl, hn⟩ := ha
  obtain ⟨B, m, d, k, rfl, ht, rfl, hm⟩ := hb
  refine (rsub_any w A n c l B m d k hs ht (by omega) (by omega) hle).mono ?_
  rintro e w' ⟨g, n', c', rfl, ho, hb⟩
  exact ⟨_, rfl, own_bar ho (by omega), hb⟩
theorem rmul_v (ha : Val w a K x) (hb : Val w b L y) (hK : K ≤ 4398046511104) (hL : L ≤ 4398046511104) :
    Calls Tryd.prog 40 #[a, b] w fun e w' => ∃ v, e = .returned v ∧ Bar w' v (K + L) (x * y) ∧ Below w.heap.size w w' := by
  have h1 := ha.lt
  have h2 := hb.lt
  obtain ⟨A, n, c, l, rfl, hs, rfl, hn⟩ := ha
  obtain ⟨B, m, d, k, rfl, ht, rfl, hm⟩ := hb
  refine (rmul_any w A n c l B m d k hs ht (by omega) (by omega)).mono ?_
  rintro e w' ⟨g, n', c', rfl, ho, hb⟩
  exact ⟨_, rfl, own_bar ho (pow_bound h1 h2 (Nat.le_refl _)), hb⟩
theorem rdm_v (ha : Val w a K x) (hb : Val w b L y) (hK : K ≤ 4398046511104) (hL : L ≤ 4398046511104) (h0 : 0 < y) :
    Calls Tryd.prog 37 #[a, b] w fun e w' => ∃ q r, e = .returned (.tuple #[q, r]) ∧ Bar w' q K (x / y) ∧ Bar w' r L (x % y) ∧ Below w.heap.size w w' := by
  have h1 := ha.lt
  have h2 := hb.lt
  obtain ⟨A, n, c, l, rfl, hs, rfl, hn⟩ := ha
  obtain ⟨B, m, d, k, rfl, ht, rfl, hm⟩ := hb
  refine (rdm_any w A n c l B m d k hs ht (by omega) (by omega) h0).mono ?_
  rintro e w' ⟨g, n', c', g2, n2, c2, rfl, ho, ho2, hb⟩
  exact ⟨_, _, rfl, own_bar ho (Nat.lt_of_le_of_lt (Nat.div_le_self _ _) h1), own_bar ho2 (Nat.lt_trans (Nat.mod_lt _ h0) h2), hb⟩
theorem rgcd_v (ha : Val w a K x) (hb : Val w b L y) (hK : K ≤ 1099511627776) (hL : L ≤ 1099511627776) :
    Calls Tryd.prog 53 #[a, b] w fun e w' => ∃ v, e = .returned v ∧ Bar w' v (max K L) (Nat.gcd x y) ∧ Below w.heap.size w w' := by
  obtain ⟨A, n, c, l, rfl, hs, rfl, hn⟩ := ha
  obtain ⟨B, m, d, k, rfl, ht, rfl, hm⟩ := hb
  exact rgcd_any w A n c l B m d k hs ht (by omega) (by omega) (max K L) (by omega) (by omega) (by omega)
theorem rlcm_v (ha : Val w a K x) (hb : Val w b L y) (hK : K ≤ 1099511627776) (hL : L ≤ 1099511627776) :
    Calls Tryd.prog 55 #[a, b] w fun e w' => ∃ v, e = .returned v ∧ Bar w' v (K + L) (Nat.lcm x y) ∧ Below w.heap.size w w' := by
  obtain ⟨A, n, c, l, rfl, hs, rfl, hn⟩ := ha
  obtain ⟨B, m, d, k, rfl, ht, rfl, hm⟩ := hb
  refine (rlcm_any w A n c l B m d k hs ht (by omega) (by omega)).mono ?_
  rintro e w' ⟨v, rfl, ⟨C, p, q, rfl, hs2, hp⟩, hb⟩
  exact ⟨_, rfl, ⟨_, _, _, rfl, hs2, by omega⟩, hb⟩
end

/-- A loan: its two lists, full and as it was, and how many limbs are lent: they tell the number x. -/
structure Loan (w : World) (gf gw n : Nat) (l : List Nat) (K x : Nat) : Prop where
  full : Sl w (some ⟨gf, 0, none⟩) (n + 4) (n + 4) l
  want : Sl w (some ⟨gw, 0, none⟩) (n + 4) (n + 4) l
  num : N.nv (l.take n) = x
  le : n ≤ K
def loanV (gf gw n : Nat) : Value := .agg #[.slice (some ⟨gf, 0, none⟩) (n + 4) (n + 4), .int .i64 n, .slice (some ⟨gw, 0, none⟩) (n + 4) (n + 4)]
theorem Loan.below {w w' : World} {gf gw n K x : Nat} {l : List Nat} (h : Loan w gf gw n l K x) (hb : Below w.heap.size w w') : Loan w' gf gw n l K x :=
  ⟨h.full.below hb, h.want.below hb, h.num, h.le⟩
theorem Loan.val {w : World} {gf gw n K x : Nat} {l : List Nat} (h : Loan w gf gw n l K x) : Val w (.slice (some ⟨gf, 0, none⟩) n (n + 4)) K x := by
  have h1 := h.full.take (m := n) (by omega)
  exact ⟨_, _, _, _, rfl, ⟨h1.len, by omega, h1.lim, h1.cells⟩, h.num, h.le⟩
theorem lend_v {w : World} {a : Value} {K x : Nat} (ha : Val w a K x) (hK : K ≤ 17592186044416) :
    Calls Tryd.prog 33 #[a] w fun e w' => ∃ gf gw n l, e = .returned (.agg #[.slice (some ⟨gf, 0, none⟩) (n + 4) (n + 4), .int .i64 n, .slice (some ⟨gw, 0, none⟩) (n + 4) (n + 4)]) ∧ Loan w' gf gw n l K x ∧ Below w.heap.size w w' := by
  obtain ⟨A, n, c, l, rfl, hs, rfl, hn⟩ := ha
  refine (lend_any w A n c l hs (by omega)).mono ?_
  rintro e w' ⟨gf, gw, k, rfl, h1, h2, h3, hb⟩
  exact ⟨gf, gw, n, k, rfl, ⟨h1.sl, h2.sl, by rw [h3], hn⟩, hb⟩
end Go.Proofs.YtchbamlfdknkgaaDoor

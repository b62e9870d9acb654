/-
  riddleref02.Of, Sign: contracts.
-/
import Derived.Test.YtiidghfkdjefgaaDoorZRef
import Derived.WalkSmall
namespace Go.Proofs.YtiidghfkdjefgaaDoor
open Go.RowKit

theorem len_zero {w : World} {A : Option Addr} {n c K : Nat} {z : Int} (h : Bag w (.slice A n c) K z.natAbs) (hz : z = 0) : n = 0 := by
  rw [h.len, hz]; rfl
theorem len_pos {w : World} {A : Option Addr} {n c K : Nat} {z : Int} (h : Bag w (.slice A n c) K z.natAbs) (hz : z ≠ 0) : 0 < n := by
  rcases Nat.eq_zero_or_pos n with h0 | h0
  · have h2 := List.eq_nil_of_length_eq_zero (h.len.symm.trans h0)
    rw [N.ofN_eq_nil] at h2
    omega
  · exact h0
set_option maxRecDepth 100000 in
set_option maxHeartbeats 800000 in
theorem sign_r {w : World} {v : Value} {K : Nat} {z : Int} (h : IV w v K z) (hK : K ≤ 35184372088832) :
    Calls Tryd.prog 30 #[v] w fun e w' => e = .returned (.int .i64 (isgn z)) ∧ Below w.heap.size w w' := by
  obtain ⟨G, hG⟩ : ∃ G, G = isgn z := ⟨_, rfl⟩
  rw [← hG]
  have HG := Lib.hid hG
  clear hG
  obtain ⟨s, x, ⟨sl, rfl, hm⟩, hz⟩ := h
  have HZ := Lib.hid hz
  clear hz
  have hb0 := below_alloc1 w (.cells #[.bool s, sl] 24)
  obtain ⟨A0, n0, k0, rfl⟩ := hm.slice
  go_enter Tryd.func30, Tryd.ntmps30
  go_wp2_with fail
  refine (norm_r (z := z) (K := K) ⟨s, x, ⟨_, rfl, hm.below hb0⟩, HZ.out⟩ (by omega)).mono ?_
  rintro e w1 ⟨u, rfl, hu, hb1⟩
  obtain ⟨d, A, n, c, rfl, HD, hg⟩ := hu.form
  have hbw := below_on hb0 hb1

  clear hu hb0 hb1 HZ hm
  rcases isgn_cases z with ⟨h1, e1⟩ | ⟨h1, e1⟩ | ⟨h1, e1⟩
  · have hn := len_pos hg (by omega)
    have hn1 : ((n : Int) == 0) = false := by simp; omega
    obtain rfl : d = true := HD.out.trans (decide_eq_true h1)
    have E1 := Lib.hid e1
    clear e1 h1 hg HD hn
    go_wp2_with fail
    go_ret
    exact ⟨by rw [HG.out, E1.out]; rfl, below_on hbw (below_alloc1 _ _)⟩
  · obtain rfl := len_zero hg h1
    have E1 := Lib.hid e1
    clear e1 h1 hg HD
    go_wp2_with fail
    go_ret
    exact ⟨by rw [HG.out, E1.out]; rfl, below_on hbw (below_alloc1 _ _)⟩
  · have hn := len_pos hg (by omega)
    have hn1 : ((n : Int) == 0) = false := by simp; omega
    obtain rfl : d = false := HD.out.trans (decide_eq_false (by omega))
    have E1 := Lib.hid e1
    clear e1 h1 hg HD hn
    go_wp2_with fail
    go_ret
    exact ⟨by rw [HG.out, E1.out]; rfl, below_on hbw (below_alloc1 _ _)⟩
theorem and_mask (m : Nat) (h : m ≤ 18446744073709551615) : bits BinOp.and IntKind.u64 (m : Int) 4294967295 = ((m % 4294967296 : Nat) : Int) := by
  have h1 := bits_and_u64_nat m 4294967295 (by omega) (by omega)
  have h2 : m &&& 4294967295 = m % 4294967296 := Nat.and_two_pow_sub_one_eq_mod m 32
  rw [h2] at h1
  exact h1
set_option maxRecDepth 100000 in
set_option maxHeartbeats 800000 in
theorem of_rneg (w : World) (z : Int) (m : Nat) (hz : z = -(m : Int)) (h0 : 0 < m) (hm : m ≤ 9223372036854775808) :
    Calls Tryd.prog 42 #[.int .i64 z] w fun e w' => ∃ u, e = .returned u ∧ ICan w' u 2 z ∧ Below w.heap.size w w' := by
  have hlt : decide (z < 0) = true := decide_eq_true (by omega)
  have hw1 : IntKind.i64.wrap (z + 1) = z + 1 := by simp [IntKind.wrap, IntKind.bits, IntKind.signed]; omega
  go_enter Tryd.func42, Tryd.ntmps42
  go_wp2_with fail
  have e : (Obj.cells #[.int .u32 (bits BinOp.and IntKind.u64 (-(-(m : Int) + 1) + 1) 4294967295 % 4294967296), .int .u32 ((-(-(m : Int) + 1) + 1) / 4294967296)] 65 : Obj) = .cells (lv [m % 4294967296, m / 4294967296]).toArray 65 := by
    rw [show (-(-(m : Int) + 1) + 1) = m by omega]
    rw [and_mask m (by omega)]
    simp [lv]
  rw [e]
  clear e
  obtain ⟨W, hW⟩ : ∃ W : World, W = w.alloc (.cells #[.bool false, .slice none 0 0] 24) := ⟨_, rfl⟩
  have hp0 : Pair W w.heap.size 24 (.bool false) (.slice none 0 0) := by rw [hW]; exact Pair.new _ _ _ _
  have hsz : W.heap.size = w.heap.size + 1 := by rw [hW]; simp
  have hbw : Below w.heap.size w W := by rw [hW]; exact below_alloc1 _ _
  rw [← hW]
  clear hW
  have hlim : N.Lim [m % 4294967296, m / 4294967296] := N.Lim.cons (Nat.mod_lt _ (by omega)) (N.Lim.cons (by omega) N.Lim.nil)
  have hs := Sl.lit W [m % 4294967296, m / 4294967296] hlim
  have hnv : N.nv [m % 4294967296, m / 4294967296] = m := by simp only [N.nv_cons, N.nv_nil]; omega
  rw [hsz] at hs
  refine (norm_r (z := z) (K := 2) ⟨true, m, ⟨_, rfl, ⟨_, 2, 2, _, rfl, Pl.any _, hs, hnv, Nat.le_refl _⟩⟩, by rw [sgn_true]; exact hz.symm⟩ (by omega)).mono ?_
  rintro e w2 ⟨u, rfl, hu, hb2⟩
  obtain ⟨d, A, n, c, rfl, HD, hg⟩ := hu.form
  have hp1 := (hp0.alloc (.cells (lv [m % 4294967296, m / 4294967296]).toArray 65)).below hb2
  replace hbw := below_on (below_on hbw (below_alloc1 _ _)) hb2
  obtain ⟨f0, f1, c0, c1⟩ := hp1.facts
  clear hp0 hb2 hs hu hz hlt hw1
  go_wp2_with fail
  refine bodyPost_ret (results_cell_row rfl _ _ _ _ _ _ _ rfl (hp1.set _ _) Tryd.underlying24 rfl sizeInt) rfl ?_
  exact ⟨_, rfl, ICan.mk HD.out (hg.pair hp1 _ _), below_pair hbw (Nat.le_refl _) _ _⟩
set_option maxRecDepth 100000 in
set_option maxHeartbeats 800000 in
theorem of_rpos (w : World) (z : Int) (m : Nat) (hz : z = (m : Int)) (hm : m < 9223372036854775808) :
    Calls Tryd.prog 42 #[.int .i64 z] w fun e w' => ∃ u, e = .returned u ∧ ICan w' u 2 z ∧ Below w.heap.size w w' := by
  have hlt : decide (z < 0) = false := decide_eq_false (by omega)
  go_enter Tryd.func42, Tryd.ntmps42
  go_wp2_with fail
  have e : (Obj.cells #[.int .u32 (bits BinOp.and IntKind.u64 ((m : Int)) 4294967295 % 4294967296), .int .u32 (((m : Int)) / 4294967296)] 65 : Obj) = .cells (lv [m % 4294967296, m / 4294967296]).toArray 65 := by
    rw [and_mask m (by omega)]
    simp [lv]
  rw [e]
  clear e
  obtain ⟨W, hW⟩ : ∃ W : World, W = w.alloc (.cells #[.bool false, .slice none 0 0] 24) := ⟨_, rfl⟩
  have hp0 : Pair W w.heap.size 24 (.bool false) (.slice none 0 0) := by rw [hW]; exact Pair.new _ _ _ _
  have hsz : W.heap.size = w.heap.size + 1 := by rw [hW]; simp
  have hbw : Below w.heap.size w W := by rw [hW]; exact below_alloc1 _ _
  rw [← hW]
  clear hW
  have hlim : N.Lim [m % 4294967296, m / 4294967296] := N.Lim.cons (Nat.mod_lt _ (by omega)) (N.Lim.cons (by omega) N.Lim.nil)
  have hs := Sl.lit W [m % 4294967296, m / 4294967296] hlim
  have hnv : N.nv [m % 4294967296, m / 4294967296] = m := by simp only [N.nv_cons, N.nv_nil]; omega
  rw [hsz] at hs
  refine (norm_r (z := z) (K := 2) ⟨false, m, ⟨_, rfl, ⟨_, 2, 2, _, rfl, Pl.any _, hs, hnv, Nat.le_refl _⟩⟩, by rw [sgn_false]; exact hz.symm⟩ (by omega)).mono ?_
  rintro e w2 ⟨u, rfl, hu, hb2⟩
  obtain ⟨d, A, n, c, rfl, HD, hg⟩ := hu.form
  have hp1 := (hp0.alloc (.cells (lv [m % 4294967296, m / 4294967296]).toArray 65)).below hb2
  replace hbw := below_on (below_on hbw (below_alloc1 _ _)) hb2
  obtain ⟨f0, f1, c0, c1⟩ := hp1.facts
  clear hp0 hb2 hs hu hz hlt
  go_wp2_with fail
  refine bodyPost_ret (results_cell_row rfl _ _ _ _ _ _ _ rfl (hp1.set _ _) Tryd.underlying24 rfl sizeInt) rfl ?_
  exact ⟨_, rfl, ICan.mk HD.out (hg.pair hp1 _ _), below_pair hbw (Nat.le_refl _) _ _⟩
theorem of_r (w : World) (z : Int) (h : -9223372036854775808 ≤ z ∧ z < 9223372036854775808) :
    Calls Tryd.prog 42 #[.int .i64 z] w fun e w' => ∃ u, e = .returned u ∧ ICan w' u 2 z ∧ Below w.heap.size w w' := by
  rcases Int.lt_or_le z 0 with h0 | h0
  · exact of_rneg w z z.natAbs (by omega) (by omega) (by omega)
  · exact of_rpos w z z.natAbs (by omega) (by omega)
end Go.Proofs.YtiidghfkdjefgaaDoor

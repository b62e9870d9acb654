/-
  riddleref02.Norm, Neg, Abs, Of, Sign: contracts.
-/
import Derived.Test.YtiidghfkdjefgaaDoorZTwo
namespace Go.Proofs.YtiidghfkdjefgaaDoor
open Go.RowKit

set_option maxRecDepth 100000 in
set_option maxHeartbeats 800000 in
theorem norm_r {w : World} {v : Value} {K : Nat} {z : Int} (h : IV w v K z) (hK : K ≤ 35184372088832) :
    Calls Tryd.prog 22 #[v] w fun e w' => ∃ u, e = .returned u ∧ ICan w' u K z ∧ Below w.heap.size w w' := by
  obtain ⟨s, x, ⟨sl, rfl, A, n, c, l, rfl, hp, hs, rfl, hn⟩, rfl⟩ := h
  have hb0 := below_alloc2 w (.cells #[.bool s, .slice A n c] 24) (.cells #[.bool false, .slice none 0 0] 24)
  have hp0 := (Pair.new w 24 (.bool s) (.slice A n c)).alloc (.cells #[.bool false, .slice none 0 0] 24)
  have hp1 := Pair.new (w.alloc (.cells #[.bool s, .slice A n c] 24)) 24 (.bool false) (.slice none 0 0)
  have hlen : (N.ofN (N.nv l)).length ≤ K := by have h1 := N.nv_len_le hs.lim; have h2 := hs.len; omega
  go_enter Tryd.func22, Tryd.ntmps22
  go_wp2_with fail
  refine (rtrim_any _ A n c l (hs.below hb0) (by omega)).mono ?_
  rintro e w1 ⟨g, k, d, rfl, ho, hb1⟩
  have hg := own_bag ho hlen
  have hk0 : decide (0 < k) = decide (0 < N.nv l) := by
    have hl := ho.sl.len
    rcases Nat.eq_zero_or_pos (N.nv l) with h0 | h0
    · have := ofN_len_zero hl h0
      subst this
      rw [h0]
    · have := ofN_len_pos hl h0
      rw [decide_eq_true h0]; exact decide_eq_true this
  have HK := Lib.hid hk0
  replace hp0 := hp0.below hb1
  replace hp1 := hp1.below hb1
  have hbw := below_on hb0 hb1
  obtain ⟨f0, f1, c0, c1⟩ := hp1.facts
  obtain ⟨_, _, c00, c01⟩ := hp0.facts
  simp only [World.size_alloc] at hp1 f0 f1 c0 c1
  clear hb0 hb1 hs ho hk0 hlen
  cases s
  all_goals
    go_wp2_with fail
    refine bodyPost_ret (results_cell_row rfl _ _ _ _ _ _ _ rfl (hp1.set _ _) Tryd.underlying24 rfl sizeInt) rfl ?_
    refine ⟨_, rfl, ICan.mk ?_ (by rw [natAbs_sgn]; exact hg.pair hp1 _ _), below_pair hbw (by omega) _ _⟩
    rw [sgn_neg]
    first | done | (simp; done) | (simp; exact decide_eq_decide.1 HK.out)
set_option maxRecDepth 100000 in
set_option maxHeartbeats 800000 in
theorem neg_r {w : World} {v : Value} {K : Nat} {z : Int} (h : IV w v K z) (hK : K ≤ 17592186044416) :
    Calls Tryd.prog 32 #[v] w fun e w' => ∃ u, e = .returned u ∧ ICan w' u K (-z) ∧ Below w.heap.size w w' := by
  obtain ⟨s, x, ⟨sl, rfl, hm⟩, rfl⟩ := h
  obtain ⟨A0, n0, k0, rfl⟩ := hm.slice
  go_enter Tryd.func32, Tryd.ntmps32
  go_wp2_with fail
  have hb0 := below_alloc2 w (.cells #[.bool s, (.slice A0 n0 k0)] 24) (.cells #[.bool false, .slice none 0 0] 24)
  have hp0 := Pair.new (w.alloc (.cells #[.bool s, (.slice A0 n0 k0)] 24)) 24 (.bool false) (.slice none 0 0)
  refine (norm_r (z := sgn (!s) x) (K := K) ⟨(!s), x, ⟨_, rfl, hm.below hb0⟩, rfl⟩ (by omega)).mono ?_
  rintro e w1 ⟨u, rfl, hu, hb1⟩
  rw [show sgn (!s) x = -(sgn s x) by exact sgn_not s x] at hu
  obtain ⟨d, A, n, c, rfl, HD, hg⟩ := hu.form
  clear hu
  have hp1 := hp0.below hb1
  have hbw := below_on hb0 hb1
  obtain ⟨f0, f1, c0, c1⟩ := hp1.facts
  simp only [World.size_alloc] at hp1 f0 f1 c0 c1
  clear hp0 hb0 hb1
  go_wp2_with fail
  refine bodyPost_ret (results_cell_row rfl _ _ _ _ _ _ _ rfl (hp1.set _ _) Tryd.underlying24 rfl sizeInt) rfl ?_
  exact ⟨_, rfl, ICan.mk HD.out (hg.pair hp1 _ _), below_pair hbw (by omega) _ _⟩
set_option maxRecDepth 100000 in
set_option maxHeartbeats 800000 in
theorem abs_r {w : World} {v : Value} {K : Nat} {z : Int} (h : IV w v K z) (hK : K ≤ 17592186044416) :
    Calls Tryd.prog 33 #[v] w fun e w' => ∃ u, e = .returned u ∧ ICan w' u K ((z.natAbs : Int)) ∧ Below w.heap.size w w' := by
  obtain ⟨s, x, ⟨sl, rfl, hm⟩, rfl⟩ := h
  obtain ⟨A0, n0, k0, rfl⟩ := hm.slice
  go_enter Tryd.func33, Tryd.ntmps33
  go_wp2_with fail
  have hb0 := below_alloc2 w (.cells #[.bool s, (.slice A0 n0 k0)] 24) (.cells #[.bool false, .slice none 0 0] 24)
  have hp0 := Pair.new (w.alloc (.cells #[.bool s, (.slice A0 n0 k0)] 24)) 24 (.bool false) (.slice none 0 0)
  refine (norm_r (z := sgn false x) (K := K) ⟨false, x, ⟨_, rfl, hm.below hb0⟩, rfl⟩ (by omega)).mono ?_
  rintro e w1 ⟨u, rfl, hu, hb1⟩
  rw [show sgn false x = ((sgn s x).natAbs : Int) by rw [abs_sgn, sgn_false]] at hu
  obtain ⟨d, A, n, c, rfl, HD, hg⟩ := hu.form
  clear hu
  have hp1 := hp0.below hb1
  have hbw := below_on hb0 hb1
  obtain ⟨f0, f1, c0, c1⟩ := hp1.facts
  simp only [World.size_alloc] at hp1 f0 f1 c0 c1
  clear hp0 hb0 hb1
  go_wp2_with fail
  refine bodyPost_ret (results_cell_row rfl _ _ _ _ _ _ _ rfl (hp1.set _ _) Tryd.underlying24 rfl sizeInt) rfl ?_
  exact ⟨_, rfl, ICan.mk HD.out (hg.pair hp1 _ _), below_pair hbw (by omega) _ _⟩
end Go.Proofs.YtiidghfkdjefgaaDoor

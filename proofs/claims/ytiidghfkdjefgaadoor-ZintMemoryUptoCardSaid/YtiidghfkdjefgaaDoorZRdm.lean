/-
  riddleref02.DivMod: contract.
-/
import Derived.Test.YtiidghfkdjefgaaDoorZRef4
import Derived.Test.YtiidghfkdjefgaaDoorZDz
import Derived.Deep.RegionWith
namespace Go.Proofs.YtiidghfkdjefgaaDoor
open Go.RowKit

theorem var_ne (w : World) (d : Bool) (A : Option Addr) (n c : Nat) : ∃ W : World, W = w.alloc (.cells #[.bool d, .slice A n c] 24) ∧ Pair W w.heap.size 24 (.bool d) (.slice A n c) ∧ Below w.heap.size w W :=
  ⟨_, rfl, Pair.new _ _ _ _, below_alloc1 _ _⟩
theorem cells3 {w : World} {b1 b2 b3 : Nat} {t1 t2 t3 : TypeId} {u0 u1 v0 v1 x0 x1 : Value} (h1 : Pair w b1 t1 u0 u1) (h2 : Pair w b2 t2 v0 v1) (h3 : Pair w b3 t3 x0 x1) :
    (w.cell? ⟨b1, 0, none⟩ = some u0 ∧ w.cell? ⟨b1, 1, none⟩ = some u1) ∧ (w.cell? ⟨b2, 0, none⟩ = some v0 ∧ w.cell? ⟨b2, 1, none⟩ = some v1) ∧ (w.cell? ⟨b3, 0, none⟩ = some x0 ∧ w.cell? ⟨b3, 1, none⟩ = some x1) :=
  ⟨h1.facts.2.2, h2.facts.2.2, h3.facts.2.2⟩
theorem rdm_b {w : World} {a b : Value} {K L x y : Nat} (ha : Mag w a K x) (hb : Mag w b L y) (hK : K ≤ 4398046511104) (hL : L ≤ 4398046511104) (h0 : 0 < y) :
    Calls Tryd.prog 54 #[a, b] w fun e w' => ∃ g n c g' n' c', e = .returned (.tuple #[.slice (some ⟨g, 0, none⟩) n c, .slice (some ⟨g', 0, none⟩) n' c']) ∧ Bag w' (.slice (some ⟨g, 0, none⟩) n c) K (x / y) ∧ Bag w' (.slice (some ⟨g', 0, none⟩) n' c') L (x % y) ∧ Below w.heap.size w w' := by
  have h1 := ha.val.lt
  have h2 := hb.val.lt
  obtain ⟨A, n, c, l, rfl, _, hs, rfl, hn⟩ := ha
  obtain ⟨B, m, d, k, rfl, _, ht, rfl, hm⟩ := hb
  refine (rdm_any w A n c l B m d k hs ht (by omega) (by omega) h0).mono ?_
  rintro e w' ⟨g, n', c', g2, n2, c2, rfl, ho, ho2, hb⟩
  exact ⟨g, n', c', g2, n2, c2, rfl, own_bag ho (N.ofN_length_le (Nat.lt_of_le_of_lt (Nat.div_le_self _ _) h1)), own_bag ho2 (N.ofN_length_le (Nat.lt_trans (Nat.mod_lt _ h0) h2)), hb⟩
set_option maxRecDepth 100000 in
set_option maxHeartbeats 4000000 in
theorem dm_r0 {w : World} {a b : Value} {K L : Nat} {x y : Int} (ha : IV w a K x) (hb : IV w b L y) (_hK : K ≤ 1099511627776) (hL : L ≤ 1099511627776) (hy : y = 0) :
    Calls Tryd.prog 14 #[a, b] w fun e w' => ∃ q r, e = .returned (.tuple #[q, r, .int .i64 11]) ∧ (ICan w' q 0 0 ∧ ICan w' r 0 0) ∧ Below w.heap.size w w' := by
  obtain ⟨s, m, ⟨sa, rfl, ha⟩, hx0⟩ := ha
  obtain ⟨t, n, ⟨sb, rfl, hb⟩, hy0⟩ := hb
  have HX0 := Lib.hid hx0
  have HY0 := Lib.hid hy0
  clear hx0 hy0
  obtain ⟨sa0, sa1, sa2, rfl⟩ := ha.slice
  obtain ⟨sb0, sb1, sb2, rfl⟩ := hb.slice
  obtain ⟨W, hW, p0, p1, p4, p5, hsz, hbw⟩ := enter4 w 24 (.bool s) (.slice sa0 sa1 sa2) (.bool t) (.slice sb0 sb1 sb2)
  have HW := Lib.hid hW
  clear hW
  obtain ⟨b4, hb4⟩ : ∃ b, b = w.heap.size + 1 + 1 := ⟨_, rfl⟩
  obtain ⟨b5, hb5⟩ : ∃ b, b = w.heap.size + 1 + 1 + 1 := ⟨_, rfl⟩
  have p4 : Pair W b4 24 (.bool false) (.slice none 0 0) := by rw [hb4]; exact p4
  have p5 : Pair W b5 24 (.bool false) (.slice none 0 0) := by rw [hb5]; exact p5
  have h4 : w.heap.size ≤ b4 ∧ b4 < b5 ∧ w.heap.size ≤ b5 := by omega
  have HB4 := Lib.hid hb4
  have HB5 := Lib.hid hb5
  clear hb4 hb5 hsz
  go_enter Tryd.func14, Tryd.ntmps14
  go_wp2_with fail
  rw [← HB5.out, ← HB4.out, ← HW.out]
  clear HW HB4 HB5
  refine (sign_r (z := y) (K := L) ⟨t, n, ⟨_, rfl, hb.below hbw⟩, HY0.out⟩ (by omega)).mono ?_
  rintro e w1 ⟨rfl, hb1⟩
  replace p0 := p0.below hb1
  replace p1 := p1.below hb1
  replace p4 := p4.below hb1
  replace p5 := p5.below hb1
  replace hbw := below_on hbw hb1
  clear hb1
  rw [show isgn y = 0 by rw [hy]; rfl]
  obtain ⟨f40, f41, c40, c41⟩ := p4.facts
  obtain ⟨f50, f51, c50, c51⟩ := p5.facts
  have hne : b4 ≠ b5 := by omega
  go_wp2_with fail
  refine bodyPost_ret (results_two rfl _ _ _ _ _ _ _ _ rfl rfl ((p4.set _ _).far (by omega) _ _) ((p5.far (by omega) _ _).set _ _)) rfl ?_
  exact ⟨_, _, rfl, ⟨ican_zero _, ican_zero _⟩, below_pair (below_pair hbw (by omega) _ _) (by omega) _ _⟩
set_option maxRecDepth 100000 in
set_option maxHeartbeats 8000000 in
theorem dm_r {w : World} {a b : Value} {K L : Nat} {x y : Int} (ha : IV w a K x) (hb : IV w b L y) (hK : K ≤ 1099511627776) (hL : L ≤ 1099511627776) (hy : y ≠ 0) :
    Calls Tryd.prog 14 #[a, b] w fun e w' => ∃ q r, e = .returned (.tuple #[q, r, .int .i64 0]) ∧ (ICan w' q (K + 3) (x.fdiv y) ∧ ICan w' r (2 * K + L + 4) (x.fmod y)) ∧ Below w.heap.size w w' := by
  obtain ⟨s, m, ⟨sa, rfl, ha⟩, hx0⟩ := ha
  obtain ⟨t, n, ⟨sb, rfl, hb⟩, hy0⟩ := hb
  have HX0 := Lib.hid hx0
  have HY0 := Lib.hid hy0
  clear hx0 hy0
  obtain ⟨sa0, sa1, sa2, rfl⟩ := ha.slice
  obtain ⟨sb0, sb1, sb2, rfl⟩ := hb.slice
  obtain ⟨W, hW, p0, p1, p4, p5, hsz, hbw⟩ := enter4 w 24 (.bool s) (.slice sa0 sa1 sa2) (.bool t) (.slice sb0 sb1 sb2)
  have HW := Lib.hid hW
  clear hW
  obtain ⟨b4, hb4⟩ : ∃ b, b = w.heap.size + 1 + 1 := ⟨_, rfl⟩
  obtain ⟨b5, hb5⟩ : ∃ b, b = w.heap.size + 1 + 1 + 1 := ⟨_, rfl⟩
  have p4 : Pair W b4 24 (.bool false) (.slice none 0 0) := by rw [hb4]; exact p4
  have p5 : Pair W b5 24 (.bool false) (.slice none 0 0) := by rw [hb5]; exact p5
  have h4 : w.heap.size ≤ b4 ∧ b4 < b5 ∧ w.heap.size ≤ b5 := by omega
  have HB4 := Lib.hid hb4
  have HB5 := Lib.hid hb5
  clear hb4 hb5 hsz
  go_enter Tryd.func14, Tryd.ntmps14
  go_wp2_with fail
  rw [← HB5.out, ← HB4.out, ← HW.out]
  clear HW HB4 HB5
  refine (sign_r (z := y) (K := L) ⟨t, n, ⟨_, rfl, hb.below hbw⟩, HY0.out⟩ (by omega)).mono ?_
  rintro e w1 ⟨rfl, hb1⟩
  replace p0 := p0.below hb1
  replace p1 := p1.below hb1
  replace p4 := p4.below hb1
  replace p5 := p5.below hb1
  replace hbw := below_on hbw hb1
  clear hb1
  obtain ⟨σ, hσ⟩ : ∃ σ, σ = isgn y := ⟨_, rfl⟩
  have hs0 : (σ == 0) = false := by
    rw [hσ]
    rcases isgn_cases y with ⟨h, e⟩ | ⟨h, e⟩ | ⟨h, e⟩
    · rw [e]; rfl
    · exact absurd h hy
    · rw [e]; rfl
  rw [← hσ]
  clear hσ
  obtain ⟨_, _, c00, c01⟩ := p0.facts
  go_wp2_with fail
  refine (norm_r (z := x) (K := K) ⟨s, m, ⟨_, rfl, ha.below hbw⟩, HX0.out⟩ (by omega)).mono ?_
  rintro e w2 ⟨v8, rfl, hv8, hb2⟩
  obtain ⟨d8, A8, n8, k8, rfl, HD8, hg8⟩ := hv8.form
  replace p1 := p1.below hb2
  replace p4 := p4.below hb2
  replace p5 := p5.below hb2
  replace hbw := below_on hbw hb2
  clear hv8 hb2 c00 c01 p0
  go_upto_region 5 with (fail)
  obtain ⟨W8, hW8, p8, hb8⟩ := var_ne w2 d8 A8 n8 k8
  rw [← hW8]
  obtain ⟨b8, e8⟩ : ∃ b, b = w2.heap.size := ⟨_, rfl⟩
  have h58 : b5 < b8 := by have := p5.lt; omega
  rw [← e8] at p8 ⊢
  clear e8
  replace p1 := p1.below hb8
  replace p4 := p4.below hb8
  replace p5 := p5.below hb8
  replace hg8 := hg8.below hb8
  replace hbw := below_on hbw hb8
  clear hW8 hb8
  obtain ⟨_, _, c10, c11⟩ := p1.facts
  go_wp2_with fail
  refine (norm_r (z := y) (K := L) ⟨t, n, ⟨_, rfl, hb.below hbw⟩, HY0.out⟩ (by omega)).mono ?_
  rintro e w3 ⟨v9, rfl, hv9, hb3⟩
  obtain ⟨d9, A9, n9, k9, rfl, HD9, hg9⟩ := hv9.form
  replace p4 := p4.below hb3
  replace p5 := p5.below hb3
  replace p8 := p8.below hb3
  replace hg8 := hg8.below hb3
  replace hbw := below_on hbw hb3
  clear hv9 hb3 c10 c11 p1
  go_upto_region 6 with (fail)
  obtain ⟨W9, hW9, p9, hb9⟩ := var_ne w3 d9 A9 n9 k9
  rw [← hW9]
  obtain ⟨b9, e9⟩ : ∃ b, b = w3.heap.size := ⟨_, rfl⟩
  have h89 : b8 < b9 := by have := p8.lt; omega
  rw [← e9] at p9 ⊢
  clear e9
  replace p4 := p4.below hb9
  replace p5 := p5.below hb9
  replace p8 := p8.below hb9
  replace hg8 := hg8.below hb9
  replace hg9 := hg9.below hb9
  replace hbw := below_on hbw hb9
  clear hW9 hb9
  obtain ⟨_, _, c80, c81⟩ := p8.facts
  obtain ⟨_, _, c90, c91⟩ := p9.facts
  go_wp2_with fail
  refine (rdm_b hg8.mag hg9.mag (by omega) (by omega) (by omega)).mono ?_
  rintro e w4 ⟨gq, nq, kq, gr, nr, kr, rfl, hq, hr, hb4⟩
  replace p4 := p4.below hb4
  replace p5 := p5.below hb4
  replace p8 := p8.below hb4
  replace p9 := p9.below hb4
  replace hg8 := hg8.below hb4
  replace hg9 := hg9.below hb4
  replace hbw := below_on hbw hb4
  clear hb4 c80 c81 c90 c91
  obtain ⟨_, _, c80, c81⟩ := p8.facts
  obtain ⟨_, _, c90, c91⟩ := p9.facts
  have hd89 : (d8 != d9) = (decide (x < 0) != decide (y < 0)) := by rw [HD8.out, HD9.out]
  obtain ⟨θ, hθ⟩ : ∃ θ : Bool, θ = (d8 != d9) := ⟨_, rfl⟩
  have hθ2 : (d8 != d9) = θ := hθ.symm
  rw [hd89] at hθ
  have HTH := Lib.hid hθ
  clear hθ hd89
  go_wp2_with fail
  refine (norm_r (z := sgn θ (x.natAbs / y.natAbs)) (K := K) ⟨(d8 != d9), _, ⟨_, rfl, hq.mag⟩, by rw [hθ2]⟩ (by omega)).mono ?_
  rintro e w5 ⟨v12, rfl, hv12, hb5'⟩
  obtain ⟨d12, A12, n12, k12, rfl, HD12, hg12⟩ := hv12.form
  replace p4 := p4.below hb5'
  replace p5 := p5.below hb5'
  replace p8 := p8.below hb5'
  replace p9 := p9.below hb5'
  replace hg8 := hg8.below hb5'
  replace hg9 := hg9.below hb5'
  replace hr := hr.below hb5'
  replace hbw := below_on hbw hb5'
  clear hb5' hv12 hq c80 c81 c90 c91
  go_upto_region 8 with (fail)
  obtain ⟨W12, hW12, p12, hb12⟩ := var_ne w5 d12 A12 n12 k12
  rw [← hW12]
  obtain ⟨b12, e12⟩ : ∃ b, b = w5.heap.size := ⟨_, rfl⟩
  have h912 : b9 < b12 := by have := p9.lt; omega
  rw [← e12] at p12 ⊢
  clear e12
  replace p4 := p4.below hb12
  replace p5 := p5.below hb12
  replace p8 := p8.below hb12
  replace p9 := p9.below hb12
  replace hg8 := hg8.below hb12
  replace hg9 := hg9.below hb12
  replace hr := hr.below hb12
  replace hg12 := hg12.below hb12
  replace hbw := below_on hbw hb12
  clear hW12 hb12
  clear hs0
  have hlen := hr.len
  have hnr : (x.natAbs % y.natAbs = 0 ∧ nr = 0) ∨ (x.natAbs % y.natAbs ≠ 0 ∧ 0 < nr) := by
    rcases Nat.eq_zero_or_pos (x.natAbs % y.natAbs) with h0 | h0
    · exact .inl ⟨h0, by rw [hlen, h0]; rfl⟩
    · refine .inr ⟨by omega, ?_⟩
      rcases Nat.eq_zero_or_pos nr with h | h
      · have h2 := List.eq_nil_of_length_eq_zero (hlen.symm.trans h); rw [N.ofN_eq_nil] at h2; omega
      · exact h
  clear hlen
  have HX := @fdm_plain (decide (x < 0)) (decide (y < 0)) x.natAbs y.natAbs (by omega)
  have HX2 := @fdm_step (decide (x < 0)) (decide (y < 0)) x.natAbs y.natAbs (by omega)
  rw [sgn_abs, sgn_abs, ← HTH.out] at HX HX2
  have HXP := Lib.hid HX
  have HXS := Lib.hid HX2
  clear HX HX2
  obtain ⟨A0', n0', c0', l0', e0, hpr, hsr, hxr, hnr0⟩ := hr.mag
  injection e0 with e1 e2 e3
  subst e1; subst e2; subst e3
  have hrl := hsr.len
  -- is one to be taken off?
  obtain ⟨β, hβ⟩ : ∃ β : Bool, β = (decide (0 < x.natAbs % y.natAbs) && (decide (x < 0) != decide (y < 0))) := ⟨_, rfl⟩
  have HBE := Lib.hid hβ
  have hcase : (θ = false ∧ β = false) ∨ (θ = true ∧ x.natAbs % y.natAbs = 0 ∧ nr = 0 ∧ β = false) ∨ (θ = true ∧ x.natAbs % y.natAbs ≠ 0 ∧ 0 < nr ∧ β = true) := by
    rw [HTH.out, hβ]
    by_cases hd : decide (x < 0) = decide (y < 0)
    · exact .inl ⟨by simp [hd], by simp [hd]⟩
    · have hd2 : (decide (x < 0) != decide (y < 0)) = true := by simpa using hd
      rw [hd2]
      rcases hnr with ⟨h1, h2⟩ | ⟨h1, h2⟩
      · exact .inr (.inl ⟨rfl, h1, h2, by rw [h1]; rfl⟩)
      · exact .inr (.inr ⟨rfl, h1, h2, by rw [decide_eq_true (show 0 < x.natAbs % y.natAbs by omega)]; rfl⟩)
  clear hβ hnr hr hy
  obtain ⟨_, _, c80, _⟩ := p8.facts
  obtain ⟨_, _, c90, _⟩ := p9.facts
  go_cut [49] from 13 (fun v49 wc => v49 = .bool β ∧ (Pair wc b4 24 (.bool false) (.slice none 0 0) ∧ Pair wc b5 24 (.bool false) (.slice none 0 0) ∧ Pair wc b8 24 (.bool d8) (.slice A8 n8 k8) ∧ Pair wc b9 24 (.bool d9) (.slice A9 n9 k9) ∧ Pair wc b12 24 (.bool d12) (.slice A12 n12 k12)) ∧ (Bag wc (.slice A8 n8 k8) K x.natAbs ∧ Bag wc (.slice A9 n9 k9) L y.natAbs ∧ Bag wc (.slice A12 n12 k12) K (sgn θ (x.natAbs / y.natAbs)).natAbs) ∧ Below w.heap.size w wc)
  case first =>
    rcases hcase with ⟨rfl, rfl⟩ | ⟨rfl, h0, h1, rfl⟩ | ⟨rfl, h0, h1, rfl⟩
    · clear HXP HXS HBE HTH
      have hdd : d8 = d9 := by simpa using hθ2
      subst hdd
      clear hθ2
      go_wp2_with fail
      go_meet
      case rel => exact ⟨rfl, ⟨p4, p5, p8, p9, p12⟩, ⟨hg8, hg9, hg12⟩, hbw⟩
    · subst h1
      have HN0 := Lib.hid h0
      clear HXP HXS HBE HTH h0
      have hdd : d9 = !d8 := by cases d8 <;> cases d9 <;> first | rfl | exact absurd hθ2 (by decide)
      subst hdd
      clear hθ2
      cases d8
      all_goals
        go_wp2_with fail
        refine (rtrim_any _ _ 0 _ _ hsr (by omega)).mono ?_
        rintro e w6 ⟨g6, n6, c6, rfl, ho6, hb6⟩
        have h6 := ho6.len
        rw [hxr, HN0.out] at h6
        obtain rfl : n6 = 0 := h6.symm
        replace hbw := below_on hbw hb6
        go_wp2_with fail
        go_meet
        case rel => exact ⟨rfl, ⟨p4.below hb6, p5.below hb6, p8.below hb6, p9.below hb6, p12.below hb6⟩, ⟨hg8.below hb6, hg9.below hb6, hg12.below hb6⟩, hbw⟩
    · have H0 := Lib.hid h0
      clear HXP HXS HBE HTH h0
      have hdd : d9 = !d8 := by cases d8 <;> cases d9 <;> first | rfl | exact absurd hθ2 (by decide)
      subst hdd
      clear hθ2
      cases d8
      all_goals
        go_wp2_with fail
        refine (rtrim_any _ _ nr _ _ hsr (by omega)).mono ?_
        rintro e w6 ⟨g6, n6, c6, rfl, ho6, hb6⟩
        have h6 := ho6.len
        rw [hxr] at h6
        have hn6 : 0 < n6 := by
          rcases Nat.eq_zero_or_pos n6 with h | h
          · have h2 := List.eq_nil_of_length_eq_zero (h6.trans h); rw [N.ofN_eq_nil] at h2; exact absurd h2 H0.out
          · exact h
        clear h6
        replace hbw := below_on hbw hb6
        go_wp2_with fail
        go_meet
        case rel => exact ⟨rfl, ⟨p4.below hb6, p5.below hb6, p8.below hb6, p9.below hb6, p12.below hb6⟩, ⟨hg8.below hb6, hg9.below hb6, hg12.below hb6⟩, hbw⟩
  case rest =>
    clear p4 p5 p8 p9 p12 hg8 hg9 hg12 hbw hsr hpr hxr hrl hcase c80 c90 ha hb HX0 HY0
    obtain ⟨rfl, ⟨p4, p5, p8, p9, p12⟩, ⟨hg8, hg9, hg12⟩, hbw⟩ := hcut
    go_upto_if 49 with (fail)
    go_cut [] from 13 (fun wr => (Pair wr b4 24 (.bool false) (.slice none 0 0) ∧ Pair wr b5 24 (.bool false) (.slice none 0 0)) ∧ (At wr b8 K x ∧ At wr b9 L y ∧ At wr b12 (K + 3) (x.fdiv y)) ∧ Below w.heap.size w wr)
    case first =>
      cases hb : β
      · have h : x.natAbs % y.natAbs = 0 ∨ decide (x < 0) = decide (y < 0) := by
          have hβ := HBE.out
          rw [hb] at hβ
          rcases Nat.eq_zero_or_pos (x.natAbs % y.natAbs) with h0 | h0
          · exact .inl h0
          · rw [decide_eq_true h0, Bool.true_and] at hβ
            exact .inr (by simpa using hβ.symm)
        obtain ⟨e1, e2⟩ := HXP.out h
        rw [← e1] at HD12 hg12
        clear e1 e2 h hb HXP HXS HBE HTH
        go_wp2_with fail
        go_meet
        case rel => exact ⟨⟨p4, p5⟩, ⟨At.of p8 HD8 hg8, At.of p9 HD9 hg9, At.of p12 HD12 (hg12.le (by omega))⟩, hbw⟩
      · have h : x.natAbs % y.natAbs ≠ 0 ∧ decide (x < 0) ≠ decide (y < 0) := by
          have hβ := HBE.out
          rw [hb] at hβ
          have hβ := hβ.symm
          rw [Bool.and_eq_true] at hβ
          exact ⟨by have := of_decide_eq_true hβ.1; omega, by simpa using hβ.2⟩
        obtain ⟨e1, e2⟩ := HXS.out h.1 h.2
        have E1 := Lib.hid e1
        clear e1 e2 h hb HXP HXS HBE HTH
        go_wp2_with fail
        have hbD : Below w.heap.size w wc.drew := hbw.drew
        obtain ⟨f0, f1, c0, c1⟩ := p12.facts
        go_region_with (first
          | (go_at_call 42; refine (of_r _ 1 (by omega)).mono ?_; rintro e w1 ⟨v1, rfl, hv1, hb1⟩; have hS := below_on hbD hb1; replace p4 := p4.drew.below hb1; replace p5 := p5.drew.below hb1; replace p8 := p8.drew.below hb1; replace p9 := p9.drew.below hb1; replace p12 := p12.drew.below hb1; replace hg8 := (hg8.below (Below.refl _ _).drew).below hb1; replace hg9 := (hg9.below (Below.refl _ _).drew).below hb1; replace hg12 := (hg12.below (Below.refl _ _).drew).below hb1; clear hbD hb1 f0 f1 c0 c1; obtain ⟨f0, f1, c0, c1⟩ := p12.facts)
          | (go_at_call 35; refine (sub_r (iv_of HD12 hg12) hv1.iv (by omega)).mono ?_; rintro e w2 ⟨v2, rfl, hv2, hb2⟩; rw [← E1.out] at hv2; obtain ⟨d3, A3, n3, k3, rfl, HD3, hg3⟩ := hv2.form; replace hS := below_on hS hb2; replace p4 := p4.below hb2; replace p5 := p5.below hb2; replace p8 := p8.below hb2; replace p9 := p9.below hb2; replace p12 := p12.below hb2; replace hg8 := hg8.below hb2; replace hg9 := hg9.below hb2; clear hv1 hv2 hg12 hb2 f0 f1 c0 c1; obtain ⟨f0, f1, c0, c1⟩ := p12.facts))
        all_goals
          go_wp2_with fail
          go_meet
          case rel => exact ⟨⟨p4.far (by omega) _ _, p5.far (by omega) _ _⟩, ⟨At.of (p8.far (by omega) _ _) HD8 (hg8.pair p12 _ _), At.of (p9.far (by omega) _ _) HD9 (hg9.pair p12 _ _), At.of (p12.set _ _) HD3 (((hg3.le (by omega)).pair p12 _ _))⟩, below_pair hS (by omega) _ _⟩
    case rest =>
      clear p4 p5 p8 p9 p12 hg8 hg9 hg12 HD8 HD9 HD12 hbw HXP HXS HBE HTH hθ2
      obtain ⟨⟨p4, p5⟩, ⟨⟨e8, B8, m8, l8, p8, HD8, hg8⟩, ⟨e9, B9, m9, l9, p9, HD9, hg9⟩, ⟨e12, B12, m12, l12, p12, HD12, hg12⟩⟩, hbw⟩ := hcut
      go_wp2_with fail
      go_region_held3 (fun w' => ((w'.cell? ⟨b12, 0, none⟩ = some (.bool e12) ∧ w'.cell? ⟨b12, 1, none⟩ = some (.slice B12 m12 l12)) ∧ (w'.cell? ⟨b8, 0, none⟩ = some (.bool e8) ∧ w'.cell? ⟨b8, 1, none⟩ = some (.slice B8 m8 l8)) ∧ (w'.cell? ⟨b9, 0, none⟩ = some (.bool e9) ∧ w'.cell? ⟨b9, 1, none⟩ = some (.slice B9 m9 l9))) ∧ Below w.heap.size w w')
        (first | assumption | with_reducible exact ⟨cells3 p12.drew p8.drew p9.drew, hbw.drew⟩ | with_reducible exact ⟨cells3 p12 p8 p9, hS⟩ | with_reducible exact ⟨cells3 (p12.far (by omega) _ _) (p8.far (by omega) _ _) (p9.far (by omega) _ _), below_pair hS (by omega) _ _⟩ | with_reducible exact ⟨cells3 ((p12.far (by omega) _ _).far (by omega) _ _) ((p8.far (by omega) _ _).far (by omega) _ _) ((p9.far (by omega) _ _).far (by omega) _ _), below_pair (below_pair hS (by omega) _ _) (by omega) _ _⟩)
        (first
          | (go_at_call 36; refine (mul_r (iv_of HD12 (hg12.below (Below.refl _ _).drew)) (iv_of HD9 (hg9.below (Below.refl _ _).drew)) (by omega)).mono ?_; rintro e w1 ⟨v1, rfl, hv1, hb1⟩; have hS := below_on hbw.drew hb1; replace p4 := p4.drew.below hb1; replace p5 := p5.drew.below hb1; replace p8 := p8.drew.below hb1; replace p9 := p9.drew.below hb1; replace p12 := p12.drew.below hb1; replace hg8 := (hg8.below (Below.refl _ _).drew).below hb1; replace hg12 := (hg12.below (Below.refl _ _).drew).below hb1; clear hb1 hg9)
          | (go_at_call 35; refine (sub_r (iv_of HD8 hg8) hv1.iv (by omega)).mono ?_; rintro e w2 ⟨v2, rfl, hv2, hb2⟩; rw [show x - x.fdiv y * y = x.fmod y by rw [Int.fmod_def, Int.mul_comm]] at hv2; obtain ⟨d3, A3, n3, k3, rfl, HD3, hg3⟩ := hv2.form; replace hS := below_on hS hb2; replace p4 := p4.below hb2; replace p5 := p5.below hb2; replace p8 := p8.below hb2; replace p9 := p9.below hb2; replace p12 := p12.below hb2; replace hg12 := hg12.below hb2; obtain ⟨f40, f41, c40, c41⟩ := p4.facts; obtain ⟨f50, f51, c50, c51⟩ := p5.facts; clear hv1 hv2 hg8 hb2))
      have hne : b4 ≠ b5 := by omega
      go_wp2_with fail
      refine bodyPost_ret (results_two rfl _ _ _ _ _ _ _ _ rfl rfl ((p4.set _ _).far (by omega) _ _) ((p5.far (by omega) _ _).set _ _)) rfl ?_
      exact ⟨_, _, rfl, ⟨ICan.mk HD12.out ((hg12.pair p4 _ _).pair (p5.far (by omega) _ _) _ _), ICan.mk HD3.out (((hg3.le (by omega)).pair p4 _ _).pair (p5.far (by omega) _ _) _ _)⟩, below_pair (below_pair hS (by omega) _ _) (by omega) _ _⟩
end Go.Proofs.YtiidghfkdjefgaaDoor

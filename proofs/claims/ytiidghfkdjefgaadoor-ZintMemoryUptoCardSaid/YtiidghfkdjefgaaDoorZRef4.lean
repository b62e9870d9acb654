/-
  riddleref02.Cmp, Same, Valid, Is, riddlelaw02.is: contracts.
-/
import Derived.Test.YtiidghfkdjefgaaDoorZRef3
namespace Go.Proofs.YtiidghfkdjefgaaDoor
open Go.RowKit

set_option maxRecDepth 100000 in
set_option maxHeartbeats 4000000 in
theorem cmp_r {w : World} {a b : Value} {K L : Nat} {x y : Int} (ha : IV w a K x) (hb : IV w b L y) (hK : K + L < 17592186044416) :
    Calls Tryd.prog 31 #[a, b] w fun e w' => e = .returned (.int .i64 (icmp x y)) ∧ Below w.heap.size w w' := by
  obtain ⟨s, m, ⟨sa, rfl, ha⟩, rfl⟩ := ha
  obtain ⟨t, n, ⟨sb, rfl, hb⟩, rfl⟩ := hb
  obtain ⟨G, hG⟩ : ∃ G, G = icmp (sgn s m) (sgn t n) := ⟨_, rfl⟩
  rw [← hG]
  have HG := Lib.hid hG
  clear hG
  obtain ⟨A0, n0, k0, rfl⟩ := ha.slice
  obtain ⟨A1, n1, k1, rfl⟩ := hb.slice
  obtain ⟨W, hW, hp0, hp1, hsz, hbw⟩ := enter2r w 24 (.bool s) (.slice A0 n0 k0) (.bool t) (.slice A1 n1 k1)
  have HW := Lib.hid hW
  clear hW hsz
  go_enter Tryd.func31, Tryd.ntmps31
  go_wp2_with fail
  rw [← HW.out]
  refine (sign_r (z := sgn s m) (K := K) ⟨s, m, ⟨_, rfl, ha.below hbw⟩, rfl⟩ (by omega)).mono ?_
  rintro e w1 ⟨rfl, hb1⟩
  replace hp0 := hp0.below hb1
  replace hp1 := hp1.below hb1
  replace hbw := below_on hbw hb1
  clear hb1
  obtain ⟨_, _, c10, c11⟩ := hp1.facts
  go_wp2_with fail
  refine (sign_r (z := sgn t n) (K := L) ⟨t, n, ⟨_, rfl, hb.below hbw⟩, rfl⟩ (by omega)).mono ?_
  rintro e w2 ⟨rfl, hb2⟩
  replace hp0 := hp0.below hb2
  replace hp1 := hp1.below hb2
  replace hbw := below_on hbw hb2
  clear hb2 c10 c11
  obtain ⟨_, _, c00, c01⟩ := hp0.facts
  obtain ⟨_, _, c10, c11⟩ := hp1.facts
  clear hp0 hp1 HW
  obtain ⟨p, hp⟩ : ∃ p, isgn (sgn s m) = p := ⟨_, rfl⟩
  obtain ⟨q, hq⟩ : ∃ q, isgn (sgn t n) = q := ⟨_, rfl⟩
  rw [hp, hq]
  rcases isgn_cases (sgn s m) with ⟨h1, e1⟩ | ⟨h1, e1⟩ | ⟨h1, e1⟩
  · rw [e1] at hp
    subst hp
    have H1 := Lib.hid h1
    clear h1 e1
    rcases isgn_cases (sgn t n) with ⟨h2, e2⟩ | ⟨h2, e2⟩ | ⟨h2, e2⟩
    · rw [e2] at hq
      subst hq
      have H2 := Lib.hid h2
      clear h2 e2
      go_wp2_with fail
      refine (rcmp_b (ha.below hbw) (hb.below hbw) (by omega) (by omega)).mono ?_
      rintro e w3 ⟨rfl, rfl⟩
      rcases N.cmpN_cases m n with ⟨h, hc⟩ | ⟨h, hc⟩ | ⟨h, hc⟩
      all_goals
        have hc2 : N.cmpN n m = -N.cmpN m n := by first | (rw [hc, N.cmpN_gt h]; rfl) | (subst h; rw [N.cmpN_eq]; rfl) | rw [hc, N.cmpN_lt h]
        rw [hc] at hc2 ⊢
        have HC2 := Lib.hid hc2
        clear hc hc2 h
        go_wp2_with fail
        go_ret
        have hc2 := HC2.out
        exact ⟨by have h1 := sgn_lt H1.out; have h2 := sgn_lt H2.out; subst h1; subst h2; rw [HG.out, icmp_neg, hc2]; try rfl, hbw⟩
    · rw [e2] at hq
      subst hq
      have H2 := Lib.hid h2
      clear h2 e2
      go_wp2_with fail
      go_ret
      exact ⟨by rw [HG.out, icmp_lt (by have := H1.out; have := H2.out; omega)]; rfl, hbw⟩
    · rw [e2] at hq
      subst hq
      have H2 := Lib.hid h2
      clear h2 e2
      go_wp2_with fail
      go_ret
      exact ⟨by rw [HG.out, icmp_lt (by have := H1.out; have := H2.out; omega)]; rfl, hbw⟩
  · rw [e1] at hp
    subst hp
    have H1 := Lib.hid h1
    clear h1 e1
    rcases isgn_cases (sgn t n) with ⟨h2, e2⟩ | ⟨h2, e2⟩ | ⟨h2, e2⟩
    · rw [e2] at hq
      subst hq
      have H2 := Lib.hid h2
      clear h2 e2
      go_wp2_with fail
      go_ret
      exact ⟨by rw [HG.out, icmp_gt (by have := H1.out; have := H2.out; omega)]; rfl, hbw⟩
    · rw [e2] at hq
      subst hq
      have H2 := Lib.hid h2
      clear h2 e2
      go_wp2_with fail
      refine (rcmp_b (ha.below hbw) (hb.below hbw) (by omega) (by omega)).mono ?_
      rintro e w3 ⟨rfl, rfl⟩
      go_wp2_with fail
      go_ret
      exact ⟨by have h1 := sgn_eq_zero.1 H1.out; have h2 := sgn_eq_zero.1 H2.out; subst h1; subst h2; rw [HG.out, sgn_zero, sgn_zero, icmp_eq]; rfl, hbw⟩
    · rw [e2] at hq
      subst hq
      have H2 := Lib.hid h2
      clear h2 e2
      go_wp2_with fail
      go_ret
      exact ⟨by rw [HG.out, icmp_lt (by have := H1.out; have := H2.out; omega)]; rfl, hbw⟩
  · rw [e1] at hp
    subst hp
    have H1 := Lib.hid h1
    clear h1 e1
    rcases isgn_cases (sgn t n) with ⟨h2, e2⟩ | ⟨h2, e2⟩ | ⟨h2, e2⟩
    · rw [e2] at hq
      subst hq
      have H2 := Lib.hid h2
      clear h2 e2
      go_wp2_with fail
      go_ret
      exact ⟨by rw [HG.out, icmp_gt (by have := H1.out; have := H2.out; omega)]; rfl, hbw⟩
    · rw [e2] at hq
      subst hq
      have H2 := Lib.hid h2
      clear h2 e2
      go_wp2_with fail
      go_ret
      exact ⟨by rw [HG.out, icmp_gt (by have := H1.out; have := H2.out; omega)]; rfl, hbw⟩
    · rw [e2] at hq
      subst hq
      have H2 := Lib.hid h2
      clear h2 e2
      go_wp2_with fail
      refine (rcmp_b (ha.below hbw) (hb.below hbw) (by omega) (by omega)).mono ?_
      rintro e w3 ⟨rfl, rfl⟩
      go_wp2_with fail
      go_ret
      exact ⟨by have h1 := sgn_gt H1.out; have h2 := sgn_gt H2.out; subst h1; subst h2; rw [HG.out, icmp_pos]; rfl, hbw⟩
set_option maxRecDepth 100000 in
set_option maxHeartbeats 4000000 in
theorem same_r {w : World} {a b : Value} {K L : Nat} {x y : Int} (ha : IV w a K x) (hb : IV w b L y) (hK : K + L < 17592186044416) :
    Calls Tryd.prog 86 #[a, b] w fun e w' => e = .returned (.bool (decide (x = y))) ∧ Below w.heap.size w w' := by
  obtain ⟨G, hG⟩ : ∃ G, G = decide (x = y) := ⟨_, rfl⟩
  rw [← hG]
  have HG := Lib.hid hG
  clear hG
  obtain ⟨s, m, ⟨sa, rfl, ha⟩, hx⟩ := ha
  obtain ⟨t, n, ⟨sb, rfl, hb⟩, hy⟩ := hb
  have HX := Lib.hid hx
  have HY := Lib.hid hy
  clear hx hy
  have hbw := below_alloc2 w (.cells #[.bool s, sa] 24) (.cells #[.bool t, sb] 24)
  go_enter Tryd.func86, Tryd.ntmps86
  go_wp2_with fail
  refine (cmp_r (x := x) (y := y) (K := K) (L := L) ⟨s, m, ⟨_, rfl, ha.below hbw⟩, HX.out⟩ ⟨t, n, ⟨_, rfl, hb.below hbw⟩, HY.out⟩ hK).mono ?_
  rintro e w1 ⟨rfl, hb1⟩
  replace hbw := below_on hbw hb1
  rcases icmp_cases x y with ⟨h, e⟩ | ⟨h, e⟩ | ⟨h, e⟩
  all_goals
    rw [e]
    have H := Lib.hid h
    clear h e
    go_wp2_with fail
    go_ret
    exact ⟨by rw [HG.out]; have := H.out; first | (rw [decide_eq_true this]; rfl) | (rw [decide_eq_false (by omega)]; rfl), hbw⟩
/-- Does a number stand as it should? -/
def vld (s : Bool) (l : List Nat) : Bool := ((s && decide (0 < N.nv l)) == s) && decide ((N.ofN (N.nv l)).length = l.length)
def IRaw (w : World) (v : Value) (K : Nat) (s : Bool) (l : List Nat) : Prop := ∃ A n c, v = .agg #[.bool s, .slice A n c] ∧ Pl A ∧ Sl w A n c l ∧ n ≤ K
theorem IRaw.below {w w' : World} {v : Value} {K : Nat} {s : Bool} {l : List Nat} (h : IRaw w v K s l) (hb : Below w.heap.size w w') : IRaw w' v K s l := by
  obtain ⟨A, n, c, e, hp, hs, hn⟩ := h
  exact ⟨A, n, c, e, hp, hs.below hb, hn⟩
theorem IRaw.iv {w : World} {v : Value} {K : Nat} {s : Bool} {l : List Nat} (h : IRaw w v K s l) : IV w v K (sgn s (N.nv l)) := by
  obtain ⟨A, n, c, e, hp, hs, hn⟩ := h
  exact ⟨s, _, ⟨_, e, ⟨A, n, c, l, rfl, hp, hs, rfl, hn⟩⟩, rfl⟩
theorem ICan.raw {w : World} {v : Value} {K : Nat} {z : Int} (h : ICan w v K z) : IRaw w v K (decide (z < 0)) (N.ofN z.natAbs) := by
  obtain ⟨sl, e, A, n, c, rfl, hp, hs, hn⟩ := h
  exact ⟨A, n, c, e, hp, hs, hn⟩
theorem vld_can (z : Int) : vld (decide (z < 0)) (N.ofN z.natAbs) = true := by
  unfold vld
  rw [N.nv_ofN]
  by_cases h : z < 0
  · rw [decide_eq_true h, decide_eq_true (show 0 < z.natAbs by omega)]; simp
  · rw [decide_eq_false h]; simp
set_option maxRecDepth 100000 in
set_option maxHeartbeats 4000000 in
theorem valid_r {w : World} {v : Value} {K : Nat} {s : Bool} {l : List Nat} (h : IRaw w v K s l) (hK : K ≤ 35184372088832) :
    Calls Tryd.prog 43 #[v] w fun e w' => e = .returned (.bool (vld s l)) ∧ Below w.heap.size w w' := by
  obtain ⟨G, hG⟩ : ∃ G, G = vld s l := ⟨_, rfl⟩
  rw [← hG]
  unfold vld at hG
  have HG := Lib.hid hG
  clear hG
  obtain ⟨A, n, c, rfl, hp, hs, hn⟩ := h
  have hlen := hs.len
  have HLEN := Lib.hid hlen
  obtain ⟨W, hW, hp0, hbw⟩ : ∃ W : World, W = w.alloc (.cells #[.bool s, .slice A n c] 24) ∧ Pair W w.heap.size 24 (.bool s) (.slice A n c) ∧ Below w.heap.size w W := ⟨_, rfl, Pair.new _ _ _ _, below_alloc1 _ _⟩
  have HW := Lib.hid hW
  clear hW hlen
  go_enter Tryd.func43, Tryd.ntmps43
  go_wp2_with fail
  rw [← HW.out]
  refine (norm_r (z := sgn s (N.nv l)) (K := K) ⟨s, _, ⟨_, rfl, ⟨A, n, c, l, rfl, hp, hs.below hbw, rfl, hn⟩⟩, rfl⟩ (by omega)).mono ?_
  rintro e w1 ⟨u, rfl, hu, hb1⟩
  obtain ⟨d, A1, k, c1, rfl, HD, hg⟩ := hu.form
  have hk := hg.len
  rw [natAbs_sgn] at hk
  have hd := HD.out
  rw [sgn_neg] at hd
  have hp1 := hp0.below hb1
  replace hbw := below_on hbw hb1
  have hfin := below_on hbw (below_alloc1 w1 (.cells #[.bool d, .slice A1 k c1] 24))
  have hp2 := hp1.alloc (.cells #[.bool d, .slice A1 k c1] 24)
  obtain ⟨_, _, c00, c01⟩ := hp2.facts
  have HKN := Lib.hid hk
  have HD2 := Lib.hid hd
  clear hu hb1 hp0 hp1 hp2 hs hk hd hbw hg HD
  by_cases h0 : d = s
  · by_cases h1 : k = n
    · have tb : (d == s) = true := by rw [h0]; simp
      have tk : ((k : Int) == (n : Int)) = true := by rw [h1]; simp
      subst h0
      subst h1
      clear tb tk
      go_wp2_with fail
      go_ret
      exact ⟨by rw [HG.out, ← HD2.out, HLEN.out, ← HKN.out]; simp, hfin⟩
    · have tk : ((k : Int) == (n : Int)) = false := by simp; omega
      subst h0
      have H1 := Lib.hid h1
      clear h1
      go_wp2_with fail
      go_ret
      exact ⟨by rw [HG.out, ← HD2.out, HLEN.out, ← HKN.out, decide_eq_false H1.out]; simp, hfin⟩
  · have tb : (d == s) = false := by simpa using h0
    have H0 := Lib.hid h0
    clear h0
    go_wp2_with fail
    go_ret
    exact ⟨by rw [HG.out, ← HD2.out, show (d == s) = false by simpa using H0.out]; simp, hfin⟩
set_option maxRecDepth 100000 in
set_option maxHeartbeats 4000000 in
theorem is_r {w : World} {a b : Value} {K L : Nat} {x y : Int} (ha : ICan w a K x) (hb : IV w b L y) (hK : K + L < 17592186044416) (hxy : x = y) :
    Calls Tryd.prog 56 #[a, b] w fun e w' => e = .returned (.bool true) ∧ Below w.heap.size w w' := by
  obtain ⟨d, A, n, c, rfl, HD, hg⟩ := ha.form
  obtain ⟨t, m, ⟨sb, rfl, hb⟩, hy⟩ := hb
  have HY := Lib.hid hy
  have HXY := Lib.hid hxy
  clear hy hxy
  obtain ⟨B1, m1, k1, rfl⟩ := hb.slice
  obtain ⟨W, hW, hp0, hp1, hsz, hbw⟩ := enter2r w 24 (.bool d) (.slice A n c) (.bool t) (.slice B1 m1 k1)
  have HW := Lib.hid hW
  clear hW hsz hg HD
  go_enter Tryd.func56, Tryd.ntmps56
  go_wp2_with fail
  rw [← HW.out]
  refine (valid_r (ha.below hbw).raw (by omega)).mono ?_
  rintro e w1 ⟨rfl, hb1⟩
  rw [vld_can]
  replace hp0 := hp0.below hb1
  replace hp1 := hp1.below hb1
  replace hbw := below_on hbw hb1
  clear hb1
  obtain ⟨_, _, c00, c01⟩ := hp0.facts
  obtain ⟨_, _, c10, c11⟩ := hp1.facts
  go_wp2_with fail
  refine (same_r (x := x) (y := y) (ha.below hbw).iv ⟨t, m, ⟨_, rfl, hb.below hbw⟩, HY.out⟩ hK).mono ?_
  rintro e w2 ⟨rfl, hb2⟩
  rw [decide_eq_true HXY.out]
  replace hbw := below_on hbw hb2
  clear hb2 c00 c01 c10 c11 hp0 hp1
  go_wp2_with fail
  go_ret
  exact ⟨rfl, hbw⟩
set_option maxRecDepth 100000 in
set_option maxHeartbeats 4000000 in
theorem is_l {w : World} {a b : Value} {K L : Nat} {x y : Int} (ha : ICan w a K x) (hb : IV w b L y) (hK : K + L < 17592186044416) (hxy : x = y) :
    Calls Tryd.prog 15 #[a, b] w fun e w' => e = .returned (.bool true) ∧ Below w.heap.size w w' := by
  obtain ⟨d, A, n, c, rfl, HD, hg⟩ := ha.form
  obtain ⟨t, m, ⟨sb, rfl, hb⟩, hy⟩ := hb
  have HY := Lib.hid hy
  clear hy
  have hbw := below_alloc2 w (.cells #[.bool d, .slice A n c] 24) (.cells #[.bool t, sb] 24)
  have HXY := Lib.hid hxy
  clear hxy
  go_enter Tryd.func15, Tryd.ntmps15
  go_wp2_with fail
  refine (is_r (x := x) (y := y) (ha.below hbw) ⟨t, m, ⟨_, rfl, hb.below hbw⟩, HY.out⟩ hK HXY.out).mono ?_
  rintro e w1 ⟨rfl, hb1⟩
  replace hbw := below_on hbw hb1
  go_wp2_with fail
  go_ret
  exact ⟨rfl, hbw⟩
end Go.Proofs.YtiidghfkdjefgaaDoor

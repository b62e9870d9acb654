/-
  riddleref02.Gcd, Floor, Mod: contracts.
-/
import Derived.Test.YtiidghfkdjefgaaDoorZRdm
import Derived.Test.YtiidghfkdjefgaaDoorZGcd
namespace Go.Proofs.YtiidghfkdjefgaaDoor
open Go.RowKit

set_option maxRecDepth 100000 in
set_option maxHeartbeats 800000 in
theorem norm_u {w : World} {s : Bool} {A : Option Addr} {n c K x : Nat} (h : Val w (.slice A n c) K x) (hK : K ≤ 35184372088832) :
    Calls Tryd.prog 22 #[.agg #[.bool s, .slice A n c]] w fun e w' => ∃ u, e = .returned u ∧ ICan w' u K (sgn s x) ∧ Below w.heap.size w w' := by
  obtain ⟨A', n', c', l, e, hs, rfl, hn⟩ := h
  injection e with e1 e2 e3
  subst e1; subst e2; subst e3
  have hb0 := below_alloc2 w (.cells #[.bool s, .slice A n c] 24) (.cells #[.bool false, .slice none 0 0] 24)
  have hp0 := (Pair.new w 24 (.bool s) (.slice A n c)).alloc (.cells #[.bool false, .slice none 0 0] 24)
  have hp1 := Pair.new (w.alloc (.cells #[.bool s, .slice A n c] 24)) 24 (.bool false) (.slice none 0 0)
  have hlen : (N.ofN (N.nv l)).length ≤ K := by have h1 := N.nv_len_le hs.lim; have h2 := hs.len; omega
  go_enter Tryd.func22, Tryd.ntmps22
  go_wp2_with fail
  refine (rtrim_any _ A n c l (hs.below hb0) (by omega)).mono ?_
  rintro e w1 ⟨g, k, d, rfl, ho, hb1⟩
  have hg := own_bag ho hlen
  have hk0 : decide (0 < k) = decide (0 < N.nv l) := by
    have hl := ho.sl.len
    rcases Nat.eq_zero_or_pos (N.nv l) with h0 | h0
    · have := ofN_len_zero hl h0
      subst this
      rw [h0]
    · have := ofN_len_pos hl h0
      rw [decide_eq_true h0]; exact decide_eq_true this
  have HK := Lib.hid hk0
  replace hp0 := hp0.below hb1
  replace hp1 := hp1.below hb1
  have hbw := below_on hb0 hb1
  obtain ⟨f0, f1, c0, c1⟩ := hp1.facts
  obtain ⟨_, _, c00, c01⟩ := hp0.facts
  simp only [World.size_alloc] at hp1 f0 f1 c0 c1
  clear hb0 hb1 hs ho hk0 hlen
  cases s
  all_goals
    go_wp2_with fail
    refine bodyPost_ret (results_cell_row rfl _ _ _ _ _ _ _ rfl (hp1.set _ _) Tryd.underlying24 rfl sizeInt) rfl ?_
    refine ⟨_, rfl, ICan.mk ?_ (by rw [natAbs_sgn]; exact hg.pair hp1 _ _), below_pair hbw (by omega) _ _⟩
    rw [sgn_neg]
    first | done | (simp; done) | (simp; exact decide_eq_decide.1 HK.out)
/-- A text's first byte is the sign. -/
theorem rgcd_b {w : World} {a b : Value} {K x y : Nat} (ha : Val w a K x) (hb : Val w b K y) (hK : K ≤ 1099511627776) :
    Calls Tryd.prog 77 #[a, b] w fun e w' => ∃ A n c, e = .returned (.slice A n c) ∧ Val w' (.slice A n c) K (Nat.gcd x y) ∧ Below w.heap.size w w' := by
  obtain ⟨A, n, c, l, rfl, hs, rfl, hn⟩ := ha
  obtain ⟨B, m, d, k, rfl, ht, rfl, hm⟩ := hb
  refine (rgcd_any w A n c l B m d k hs ht (by omega) (by omega) K (by omega) (by omega) (by omega)).mono ?_
  rintro e w' ⟨v, rfl, hv, hb⟩
  obtain ⟨A', n', c', rfl, hs', hn'⟩ := hv
  exact ⟨A', n', c', rfl, ⟨_, _, _, _, rfl, hs', N.nv_ofN _, hn'⟩, hb⟩
set_option maxRecDepth 100000 in
set_option maxHeartbeats 4000000 in
theorem gcd_r {w : World} {A : Option Addr} {n c K : Nat} {zs : List Int} (harr : ArrI w A n K zs) (hK : K ≤ 1099511627776) (hn : n ≤ 1048576) :
    Calls Tryd.prog 48 #[.slice A n c] w fun e w' => ∃ u, e = .returned u ∧ ICan w' u K ((foldN Nat.gcd 0 zs n : Nat) : Int) ∧ Below w.heap.size w w' := by
  have hb0 := below_alloc1 w (.cells #[.bool false, .slice none 0 0] 24)
  have hp0 := Pair.new w 24 (.bool false) (.slice none 0 0)
  have harr0 := harr.below hb0
  clear harr
  go_enter Tryd.func48, Tryd.ntmps48
  go_wp2_with fail
  go_loopg [3, 4] n (fun gk v3 v4 wr => ∃ (k : Nat) (B : Option Addr) (m d : Nat), gk + k = n ∧ v4 = .int .i64 (k : Nat) ∧ v3 = .slice B m d ∧ Val wr (.slice B m d) K (foldN Nat.gcd 0 zs k) ∧ ArrI wr A n K zs ∧ Pair wr w.heap.size 24 (.bool false) (.slice none 0 0) ∧ Below w.heap.size w wr)
  case atStart => exact ⟨0, none, 0, 0, rfl, rfl, rfl, ⟨none, 0, 0, [], rfl, Sl.nil _ _ _, rfl, Nat.zero_le _⟩, harr0, hp0, hb0⟩
  case round =>
    clear harr0 hp0 hb0
    obtain ⟨k, B, m, d, hk, rfl, rfl, hv, harr, hp0, hbw⟩ := hrel
    by_cases hkn : k < n
    · obtain ⟨b, o, rfl, hc⟩ := harr.2 (by omega)
      obtain ⟨d2, B2, m2, l2, e0, e1, hz⟩ := hc k hkn
      have HC := Lib.hid hc
      clear hc
      go_wp2_with fail
      obtain ⟨s2, x2, ⟨sl2, ev, hm2⟩, hzs⟩ := hz
      have esl : sl2 = .slice B2 m2 l2 := by injection ev with ev; injection ev with ev; injection ev with _ ev; injection ev with ev; exact ev.symm
      subst esl
      have hx2 : x2 = (zs.getD k 0).natAbs := by rw [← hzs, natAbs_sgn]
      have HX2 := Lib.hid hx2
      clear hx2 hzs ev
      refine (rgcd_b hv hm2.val (by omega)).mono ?_
      rintro e w2 ⟨A3, n3, c3, rfl, hv3, hb2⟩
      rw [HX2.out, ← foldN_succ Nat.gcd 0 zs k (by rw [harr.1]; exact hkn)] at hv3
      replace harr := harr.below hb2
      replace hp0 := hp0.below hb2
      replace hbw := below_on hbw hb2
      clear hb2 hv hm2 e0 e1
      go_wp2_with fail
      go_roundg (gk - 1)
      case measure => omega
      case rel => exact ⟨k + 1, A3, n3, c3, by omega, by go_num, rfl, hv3, harr, hp0, hbw⟩
    · obtain rfl : k = n := by omega
      go_wp2_with fail
      refine (norm_u (s := false) hv (by omega)).mono ?_
      rintro e w2 ⟨u, rfl, hu, hb2⟩
      rw [sgn_false] at hu
      obtain ⟨d3, A3, n3, k3, rfl, HD3, hg3⟩ := hu.form
      replace hp0 := hp0.below hb2
      replace hbw := below_on hbw hb2
      obtain ⟨f0, f1, c0, c1⟩ := hp0.facts
      clear hb2 hu hv
      go_wp2_with fail
      refine bodyPost_ret (results_cell_row rfl _ _ _ _ _ _ _ rfl (hp0.set _ _) Tryd.underlying24 rfl sizeInt) rfl ?_
      exact ⟨_, rfl, ICan.mk HD3.out (hg3.pair hp0 _ _), below_pair hbw (Nat.le_refl _) _ _⟩
set_option maxRecDepth 100000 in
set_option maxHeartbeats 1600000 in
theorem floor_r {w : World} {a b : Value} {K L : Nat} {x y : Int} (ha : IV w a K x) (hb : IV w b L y) (hK : K ≤ 1099511627776) (hL : L ≤ 1099511627776) (hy : y ≠ 0) :
    Calls Tryd.prog 78 #[a, b] w fun e w' => ∃ u, e = .returned u ∧ ICan w' u (K + 3) (x.fdiv y) ∧ Below w.heap.size w w' := by
  obtain ⟨s, m, ⟨sa, rfl, ha⟩, hx0⟩ := ha
  obtain ⟨t, n, ⟨sb, rfl, hb⟩, hy0⟩ := hb
  obtain ⟨W, hW, p0, p1, p2, hsz, hbw⟩ := enter2 w 24 (.bool s) sa (.bool t) sb
  have HW := Lib.hid hW
  have hax : IV w (.agg #[.bool s, sa]) K x := ⟨s, m, ⟨_, rfl, ha⟩, hx0⟩
  have hby : IV w (.agg #[.bool t, sb]) L y := ⟨t, n, ⟨_, rfl, hb⟩, hy0⟩
  clear hW hsz hx0 hy0 ha hb
  obtain ⟨b4, hb4⟩ : ∃ b, b = w.heap.size + 1 + 1 := ⟨_, rfl⟩
  have p4 : Pair W b4 24 (.bool false) (.slice none 0 0) := by rw [hb4]; exact p2
  have hle : w.heap.size ≤ b4 := by omega
  have HB4 := Lib.hid hb4
  clear p2 hb4
  go_enter Tryd.func78, Tryd.ntmps78
  go_upto_region 1 with (fail)
  rw [← HB4.out, ← HW.out]
  obtain ⟨_, _, c00, c01⟩ := p0.facts
  obtain ⟨_, _, c10, c11⟩ := p1.facts
  go_wp2_with fail
  refine (dm_r (hax.below hbw) (hby.below hbw) (by omega) (by omega) hy).mono ?_
  rintro e w1 ⟨q, r, rfl, ⟨hq, hr⟩, hb1⟩
  obtain ⟨dq, Aq, nq, kq, rfl, HDQ, hgq⟩ := hq.form
  obtain ⟨dr, Ar, nr, kr, rfl, HDR, hgr⟩ := hr.form
  replace p4 := p4.below hb1
  replace hbw := below_on hbw hb1
  clear hb1 hq hr c00 c01 c10 c11 p0 p1 HW HB4 hax hby
  go_upto_region 2 with (fail)
  obtain ⟨W5, hW5, p5, p6, hs5, hb5⟩ := enter2r w1 24 (.bool dq) (.slice Aq nq kq) (.bool dr) (.slice Ar nr kr)
  rw [← hW5]
  replace p4 := p4.below hb5
  replace hgq := hgq.below hb5
  replace hgr := hgr.below hb5
  replace hbw := below_on hbw hb5
  clear hW5 hb5 hs5
  obtain ⟨_, _, c50, c51⟩ := p5.facts
  obtain ⟨_, _, c60, c61⟩ := p6.facts
  obtain ⟨f40, f41, c40, c41⟩ := p4.facts
  go_wp2_with fail
  refine bodyPost_ret (results_cell_row rfl _ _ _ _ _ _ _ rfl (p4.set _ _) Tryd.underlying24 rfl sizeInt) rfl ?_
  exact ⟨_, rfl, ICan.mk HDQ.out (hgq.pair p4 _ _), below_pair hbw hle _ _⟩
set_option maxRecDepth 100000 in
set_option maxHeartbeats 1600000 in
theorem mod_r {w : World} {a b : Value} {K L : Nat} {x y : Int} (ha : IV w a K x) (hb : IV w b L y) (hK : K ≤ 1099511627776) (hL : L ≤ 1099511627776) (hy : y ≠ 0) :
    Calls Tryd.prog 51 #[a, b] w fun e w' => ∃ u, e = .returned u ∧ ICan w' u (2 * K + L + 4) (x.fmod y) ∧ Below w.heap.size w w' := by
  obtain ⟨s, m, ⟨sa, rfl, ha⟩, hx0⟩ := ha
  obtain ⟨t, n, ⟨sb, rfl, hb⟩, hy0⟩ := hb
  obtain ⟨W, hW, p0, p1, p2, hsz, hbw⟩ := enter2 w 24 (.bool s) sa (.bool t) sb
  have HW := Lib.hid hW
  have hax : IV w (.agg #[.bool s, sa]) K x := ⟨s, m, ⟨_, rfl, ha⟩, hx0⟩
  have hby : IV w (.agg #[.bool t, sb]) L y := ⟨t, n, ⟨_, rfl, hb⟩, hy0⟩
  clear hW hsz hx0 hy0 ha hb
  obtain ⟨b4, hb4⟩ : ∃ b, b = w.heap.size + 1 + 1 := ⟨_, rfl⟩
  have p4 : Pair W b4 24 (.bool false) (.slice none 0 0) := by rw [hb4]; exact p2
  have hle : w.heap.size ≤ b4 := by omega
  have HB4 := Lib.hid hb4
  clear p2 hb4
  go_enter Tryd.func51, Tryd.ntmps51
  go_upto_region 1 with (fail)
  rw [← HB4.out, ← HW.out]
  obtain ⟨_, _, c00, c01⟩ := p0.facts
  obtain ⟨_, _, c10, c11⟩ := p1.facts
  go_wp2_with fail
  refine (dm_r (hax.below hbw) (hby.below hbw) (by omega) (by omega) hy).mono ?_
  rintro e w1 ⟨q, r, rfl, ⟨hq, hr⟩, hb1⟩
  obtain ⟨dq, Aq, nq, kq, rfl, HDQ, hgq⟩ := hq.form
  obtain ⟨dr, Ar, nr, kr, rfl, HDR, hgr⟩ := hr.form
  replace p4 := p4.below hb1
  replace hbw := below_on hbw hb1
  clear hb1 hq hr c00 c01 c10 c11 p0 p1 HW HB4 hax hby
  go_upto_region 2 with (fail)
  obtain ⟨W5, hW5, p5, p6, hs5, hb5⟩ := enter2r w1 24 (.bool dq) (.slice Aq nq kq) (.bool dr) (.slice Ar nr kr)
  rw [← hW5]
  replace p4 := p4.below hb5
  replace hgq := hgq.below hb5
  replace hgr := hgr.below hb5
  replace hbw := below_on hbw hb5
  clear hW5 hb5 hs5
  obtain ⟨_, _, c50, c51⟩ := p5.facts
  obtain ⟨_, _, c60, c61⟩ := p6.facts
  obtain ⟨f40, f41, c40, c41⟩ := p4.facts
  go_wp2_with fail
  refine bodyPost_ret (results_cell_row rfl _ _ _ _ _ _ _ rfl (p4.set _ _) Tryd.underlying24 rfl sizeInt) rfl ?_
  exact ⟨_, rfl, ICan.mk HDR.out (hgr.pair p4 _ _), below_pair hbw hle _ _⟩
set_option maxRecDepth 100000 in
set_option maxHeartbeats 1600000 in
theorem mod_r0 {w : World} {a b : Value} {K L : Nat} {x y : Int} (ha : IV w a K x) (hb : IV w b L y) (hK : K ≤ 1099511627776) (hL : L ≤ 1099511627776) (hy : y = 0) :
    Calls Tryd.prog 51 #[a, b] w fun e w' => ∃ u, e = .returned u ∧ ICan w' u (0) (0) ∧ Below w.heap.size w w' := by
  obtain ⟨s, m, ⟨sa, rfl, ha⟩, hx0⟩ := ha
  obtain ⟨t, n, ⟨sb, rfl, hb⟩, hy0⟩ := hb
  obtain ⟨W, hW, p0, p1, p2, hsz, hbw⟩ := enter2 w 24 (.bool s) sa (.bool t) sb
  have HW := Lib.hid hW
  have hax : IV w (.agg #[.bool s, sa]) K x := ⟨s, m, ⟨_, rfl, ha⟩, hx0⟩
  have hby : IV w (.agg #[.bool t, sb]) L y := ⟨t, n, ⟨_, rfl, hb⟩, hy0⟩
  clear hW hsz hx0 hy0 ha hb
  obtain ⟨b4, hb4⟩ : ∃ b, b = w.heap.size + 1 + 1 := ⟨_, rfl⟩
  have p4 : Pair W b4 24 (.bool false) (.slice none 0 0) := by rw [hb4]; exact p2
  have hle : w.heap.size ≤ b4 := by omega
  have HB4 := Lib.hid hb4
  clear p2 hb4
  go_enter Tryd.func51, Tryd.ntmps51
  go_upto_region 1 with (fail)
  rw [← HB4.out, ← HW.out]
  obtain ⟨_, _, c00, c01⟩ := p0.facts
  obtain ⟨_, _, c10, c11⟩ := p1.facts
  go_wp2_with fail
  refine (dm_r0 (hax.below hbw) (hby.below hbw) (by omega) (by omega) hy).mono ?_
  rintro e w1 ⟨q, r, rfl, ⟨hq, hr⟩, hb1⟩
  obtain ⟨dq, Aq, nq, kq, rfl, HDQ, hgq⟩ := hq.form
  obtain ⟨dr, Ar, nr, kr, rfl, HDR, hgr⟩ := hr.form
  replace p4 := p4.below hb1
  replace hbw := below_on hbw hb1
  clear hb1 hq hr c00 c01 c10 c11 p0 p1 HW HB4 hax hby
  go_upto_region 2 with (fail)
  obtain ⟨W5, hW5, p5, p6, hs5, hb5⟩ := enter2r w1 24 (.bool dq) (.slice Aq nq kq) (.bool dr) (.slice Ar nr kr)
  rw [← hW5]
  replace p4 := p4.below hb5
  replace hgq := hgq.below hb5
  replace hgr := hgr.below hb5
  replace hbw := below_on hbw hb5
  clear hW5 hb5 hs5
  obtain ⟨_, _, c50, c51⟩ := p5.facts
  obtain ⟨_, _, c60, c61⟩ := p6.facts
  obtain ⟨f40, f41, c40, c41⟩ := p4.facts
  go_wp2_with fail
  refine bodyPost_ret (results_cell_row rfl _ _ _ _ _ _ _ rfl (p4.set _ _) Tryd.underlying24 rfl sizeInt) rfl ?_
  exact ⟨_, rfl, ICan.mk HDR.out (hgr.pair p4 _ _), below_pair hbw hle _ _⟩
end Go.Proofs.YtiidghfkdjefgaaDoor

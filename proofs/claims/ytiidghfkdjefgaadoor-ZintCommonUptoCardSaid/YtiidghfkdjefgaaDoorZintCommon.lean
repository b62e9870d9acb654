/-
  The walk of riddlelaw02.ZintCommon: it answers true.
-/
import Derived.Test.YtiidghfkdjefgaaDoorZAwake
import Derived.Deep.RegionHeld3
import Derived.Test.YtiidghfkdjefgaaDoorZGcd
namespace Go.Proofs.YtiidghfkdjefgaaDoor
open Go.RowKit

theorem icmp_of {x y : Int} (h : x = y) : icmp x y = 0 := by rw [h, icmp_eq]
theorem fold_gcd (x y : Int) : ((foldN Nat.gcd 0 [x, y] 2 : Nat) : Int) = (Nat.gcd x.natAbs y.natAbs : Nat) := by simp [foldN]
theorem fold_lcm (x y : Int) : ((foldN Nat.lcm 1 [x, y] 2 : Nat) : Int) = (Nat.lcm x.natAbs y.natAbs : Nat) := by simp [foldN]
theorem common_all (x y : Int) : ((Nat.gcd x.natAbs y.natAbs : Nat) : Int) * ((Nat.lcm x.natAbs y.natAbs : Nat) : Int) = ((x * y).natAbs : Int) := by
  rw [← Int.natCast_mul, Nat.gcd_mul_lcm, Int.natAbs_mul]
theorem common_left {x : Int} {g : Nat} (h : g ∣ x.natAbs) : x.fmod (g : Int) = 0 := Int.fmod_eq_zero_of_dvd (Int.dvd_natAbs.1 (Int.natCast_dvd_natCast.2 h))
theorem common_q {x : Int} {g : Nat} (h : g ∣ x.natAbs) : x.natAbs = g * (x.fdiv (g : Int)).natAbs := by
  have h1 := Int.mul_fdiv_cancel_of_fmod_eq_zero (common_left h)
  have h2 := congrArg Int.natAbs h1
  rw [Int.natAbs_mul, Int.natAbs_natCast] at h2
  exact h2.symm
theorem common_apart {x y : Int} (hz : 0 < Nat.gcd x.natAbs y.natAbs) : Nat.gcd (x.fdiv (Nat.gcd x.natAbs y.natAbs : Nat)).natAbs (y.fdiv (Nat.gcd x.natAbs y.natAbs : Nat)).natAbs = 1 := by
  have h1 := common_q (Nat.gcd_dvd_left x.natAbs y.natAbs)
  have h2 := common_q (Nat.gcd_dvd_right x.natAbs y.natAbs)
  generalize (x.fdiv (Nat.gcd x.natAbs y.natAbs : Nat)).natAbs = p at *
  generalize (y.fdiv (Nat.gcd x.natAbs y.natAbs : Nat)).natAbs = q at *
  generalize hg : Nat.gcd x.natAbs y.natAbs = g at *
  rw [h1, h2, Nat.gcd_mul_left] at hg
  exact Nat.eq_of_mul_eq_mul_left hz (by rw [hg, Nat.mul_one])

set_option maxRecDepth 100000 in
set_option maxHeartbeats 40000000 in
theorem walkZintCommon (w : World) (a b : Value) (Ka Kb : Nat) (na nb : Int) (h_a : IV w a Ka na) (h_b : IV w b Kb nb) (hKa : Ka ≤ 1048576) (hKb : Kb ≤ 1048576) :
    Calls Tryd.prog 11 #[a, b] w fun e w' => e = .returned (.bool true) ∧ Below w.heap.size w w' := by
  obtain ⟨sa, xa, ⟨la, rfl, hma⟩, hza⟩ := h_a
  obtain ⟨Aa, ma, ka, rfl⟩ := hma.slice
  have h_a : IV w (.agg #[.bool sa, .slice Aa ma ka]) Ka na := ⟨sa, xa, ⟨_, rfl, hma⟩, hza⟩
  obtain ⟨sb, xb, ⟨lb, rfl, hmb⟩, hzb⟩ := h_b
  obtain ⟨Ab, mb, kb, rfl⟩ := hmb.slice
  have h_b : IV w (.agg #[.bool sb, .slice Ab mb kb]) Kb nb := ⟨sb, xb, ⟨_, rfl, hmb⟩, hzb⟩
  have hw0 : Below w.heap.size w w := Below.refl _ _
  obtain ⟨V0, hV0, p_a, hb0⟩ := var_new w sa Aa ma ka
  obtain ⟨b_a, hb_a⟩ : ∃ b, b = w.heap.size := ⟨_, rfl⟩
  rw [← hb_a] at p_a
  replace hw0 := below_on hw0 hb0
  obtain ⟨V1, hV1, p_b, hb1⟩ := var_new V0 sb Ab mb kb
  obtain ⟨b_b, hb_b⟩ : ∃ b, b = w.heap.size + 1 := ⟨_, rfl⟩
  rw [show V0.heap.size = b_b by rw [hV0, hb_b]; simp] at p_b
  replace p_a := p_a.below hb1
  replace hw0 := below_on hw0 hb1
  replace h_a := h_a.below hw0
  replace h_b := h_b.below hw0
  clear hma hza
  clear hmb hzb
  have HB_a := Lib.hid hb_a
  have HB_b := Lib.hid hb_b
  have HV0 := Lib.hid hV0
  have HV1 := Lib.hid hV1
  clear hb_a hb_b hV0 hV1 hb0 hb1
  have hw := hw0
  clear hw0
  go_enter Tryd.func11, Tryd.ntmps11
  go_wp2_with fail
  try simp only [World.size_alloc]
  rw [← HV0.out]
  rw [← HV1.out]
  try rw [← HB_b.out]
  try rw [← HB_a.out]
  clear HB_a HB_b
  clear HV0 HV1
  have hS0 : ∀ w', Below V1.heap.size V1 w' → (fun w' => ((w'.cell? ⟨b_a, 0, none⟩ = some (.bool sa) ∧ w'.cell? ⟨b_a, 1, none⟩ = some (.slice Aa ma ka)) ∧ (w'.cell? ⟨b_b, 0, none⟩ = some (.bool sb) ∧ w'.cell? ⟨b_b, 1, none⟩ = some (.slice Ab mb kb))) ∧ Below V1.heap.size V1 w') w' := fun w' h => ⟨⟨⟨(p_a.below h).facts.2.2.1, (p_a.below h).facts.2.2.2⟩, ⟨(p_b.below h).facts.2.2.1, (p_b.below h).facts.2.2.2⟩⟩, h⟩
  have HS0 := Lib.hid hS0
  clear hS0
  have hS : Below V1.heap.size V1 V1 := Below.refl _ _
  refine (awake_l _).mono ?_
  rintro e u1 ⟨rfl, hbk⟩
  replace hS := below_on hS hbk
  clear hbk
  obtain ⟨⟨⟨c_a0, c_a1⟩, ⟨c_b0, c_b1⟩⟩, _⟩ := HS0.out _ hS
  go_wp2_with fail
  refine (gcd_i (arr_two (K := Ka + Kb) ((h_a.below hS).le (by omega)) ((h_b.below hS).le (by omega)) rfl) (by omega) (by omega)).mono ?_
  rintro e u2 ⟨vv, rfl, hv, hbk0⟩
  have hbk := below_on (below_alloc1 _ _) hbk0
  clear hbk0
  rw [fold_gcd] at hv
  obtain ⟨dg, Ag, mg, kg, rfl, HD_g, hg_g⟩ := hv.form
  clear hv
  replace hS := below_on hS hbk
  clear c_a0 c_a1 c_b0 c_b1
  clear hbk
  go_upto_region 3 with (fail)
  obtain ⟨W3, hWk, p_g, hbv⟩ := var_new u2 dg Ag mg kg
  rw [← hWk]
  obtain ⟨b_g, hbe⟩ : ∃ b, b = u2.heap.size := ⟨_, rfl⟩
  rw [← hbe] at p_g ⊢
  replace hS := below_on hS hbv
  replace p_a := p_a.below hS
  replace h_a := h_a.below hS
  replace p_b := p_b.below hS
  replace h_b := h_b.below hS
  have h_g := ICan.mk HD_g.out (hg_g.below hbv)
  replace hw := below_on hw hS
  clear hWk hbe hS HS0 hg_g HD_g hbv
  have hS0 : ∀ w', Below W3.heap.size W3 w' → (fun w' => ((w'.cell? ⟨b_a, 0, none⟩ = some (.bool sa) ∧ w'.cell? ⟨b_a, 1, none⟩ = some (.slice Aa ma ka)) ∧ (w'.cell? ⟨b_b, 0, none⟩ = some (.bool sb) ∧ w'.cell? ⟨b_b, 1, none⟩ = some (.slice Ab mb kb)) ∧ (w'.cell? ⟨b_g, 0, none⟩ = some (.bool dg) ∧ w'.cell? ⟨b_g, 1, none⟩ = some (.slice Ag mg kg))) ∧ Below W3.heap.size W3 w') w' := fun w' h => ⟨⟨⟨(p_a.below h).facts.2.2.1, (p_a.below h).facts.2.2.2⟩, ⟨(p_b.below h).facts.2.2.1, (p_b.below h).facts.2.2.2⟩, ⟨(p_g.below h).facts.2.2.1, (p_g.below h).facts.2.2.2⟩⟩, h⟩
  have HS0 := Lib.hid hS0
  clear hS0
  have hS : Below W3.heap.size W3 W3 := Below.refl _ _
  obtain ⟨⟨⟨c_a0, c_a1⟩, ⟨c_b0, c_b1⟩, ⟨c_g0, c_g1⟩⟩, _⟩ := HS0.out _ hS
  go_wp2_with fail
  refine (lcm_i (arr_two (K := Ka + Kb) ((h_a.below hS).le (by omega)) ((h_b.below hS).le (by omega)) rfl) (by omega) (by omega)).mono ?_
  rintro e u4 ⟨vv, rfl, hv, hbk0⟩
  have hbk := below_on (below_alloc1 _ _) hbk0
  clear hbk0
  rw [fold_lcm] at hv
  obtain ⟨dm, Am, mm, km, rfl, HD_m, hg_m⟩ := hv.form
  clear hv
  replace hS := below_on hS hbk
  clear c_a0 c_a1 c_b0 c_b1 c_g0 c_g1
  clear hbk
  go_upto_region 4 with (fail)
  obtain ⟨W5, hWk, p_m, hbv⟩ := var_new u4 dm Am mm km
  rw [← hWk]
  obtain ⟨b_m, hbe⟩ : ∃ b, b = u4.heap.size := ⟨_, rfl⟩
  rw [← hbe] at p_m ⊢
  replace hS := below_on hS hbv
  replace p_a := p_a.below hS
  replace h_a := h_a.below hS
  replace p_b := p_b.below hS
  replace h_b := h_b.below hS
  replace p_g := p_g.below hS
  replace h_g := h_g.below hS
  have h_m := ICan.mk HD_m.out (hg_m.below hbv)
  replace hw := below_on hw hS
  clear hWk hbe hS HS0 hg_m HD_m hbv
  have hS0 : ∀ w', Below W5.heap.size W5 w' → (fun w' => ((w'.cell? ⟨b_a, 0, none⟩ = some (.bool sa) ∧ w'.cell? ⟨b_a, 1, none⟩ = some (.slice Aa ma ka)) ∧ (w'.cell? ⟨b_b, 0, none⟩ = some (.bool sb) ∧ w'.cell? ⟨b_b, 1, none⟩ = some (.slice Ab mb kb)) ∧ (w'.cell? ⟨b_g, 0, none⟩ = some (.bool dg) ∧ w'.cell? ⟨b_g, 1, none⟩ = some (.slice Ag mg kg)) ∧ (w'.cell? ⟨b_m, 0, none⟩ = some (.bool dm) ∧ w'.cell? ⟨b_m, 1, none⟩ = some (.slice Am mm km))) ∧ Below W5.heap.size W5 w') w' := fun w' h => ⟨⟨⟨(p_a.below h).facts.2.2.1, (p_a.below h).facts.2.2.2⟩, ⟨(p_b.below h).facts.2.2.1, (p_b.below h).facts.2.2.2⟩, ⟨(p_g.below h).facts.2.2.1, (p_g.below h).facts.2.2.2⟩, ⟨(p_m.below h).facts.2.2.1, (p_m.below h).facts.2.2.2⟩⟩, h⟩
  have HS0 := Lib.hid hS0
  clear hS0
  have hS : Below W5.heap.size W5 W5 := Below.refl _ _
  go_region_held3 (fun w' => ((w'.cell? ⟨b_a, 0, none⟩ = some (.bool sa) ∧ w'.cell? ⟨b_a, 1, none⟩ = some (.slice Aa ma ka)) ∧ (w'.cell? ⟨b_b, 0, none⟩ = some (.bool sb) ∧ w'.cell? ⟨b_b, 1, none⟩ = some (.slice Ab mb kb)) ∧ (w'.cell? ⟨b_g, 0, none⟩ = some (.bool dg) ∧ w'.cell? ⟨b_g, 1, none⟩ = some (.slice Ag mg kg)) ∧ (w'.cell? ⟨b_m, 0, none⟩ = some (.bool dm) ∧ w'.cell? ⟨b_m, 1, none⟩ = some (.slice Am mm km))) ∧ Below W5.heap.size W5 w')
    (first | assumption | exact HS0.out _ (by assumption) | exact HS0.out _ (Below.drew (by assumption)) | exact HS0.out _ (below_on (s_below (by assumption)) (below_alloc1 _ _)) | exact HS0.out _ (below_on (by assumption) (below_alloc1 _ _)))
    (first
      | (go_at_call 24; have _q := mk2; clear _q; refine (cmp_i h_t1.iv h_t3.iv (by omega)).mono ?_; rintro e wn ⟨rfl, hb⟩; have hS2 := below_on (s_below (by assumption)) hb; (try clear hS); have hS := hS2; clear hS2; rw [icmp_of (common_all na nb)]; clear hb; have mk3 : True := trivial)
      | (go_at_call 29; have _q := mk1; clear _q; refine (abs_i h_t2.iv (by omega)).mono ?_; rintro e wn ⟨t3, rfl, h_t3, hb⟩; have hS2 := below_on (s_below (by assumption)) hb; (try clear hS); have hS := hS2; clear hS2; replace h_t1 := h_t1.below hb; clear hb; have mk2 : True := trivial)
      | (go_at_call 25; have _q := mk0; clear _q; refine (mul_i (h_a.below (s_below (by assumption))) (h_b.below (s_below (by assumption))) (by omega)).mono ?_; rintro e wn ⟨t2, rfl, h_t2, hb⟩; have hS2 := below_on (s_below (by assumption)) hb; (try clear hS); have hS := hS2; clear hS2; replace h_t1 := h_t1.below hb; clear hb; have mk1 : True := trivial)
      | (go_at_call 25; refine (mul_i (h_g.below (s_below (by assumption))).iv (h_m.below (s_below (by assumption))).iv (by omega)).mono ?_; rintro e wn ⟨t1, rfl, h_t1, hb⟩; have hS2 := below_on (s_below (by assumption)) hb; (try clear hS); have hS := hS2; clear hS2; clear hb; have mk0 : True := trivial))
  clear mk0 mk1 mk2 mk3
  go_upto_region 5 with (fail)
  obtain ⟨⟨⟨c_a0, c_a1⟩, ⟨c_b0, c_b1⟩, ⟨c_g0, c_g1⟩, ⟨c_m0, c_m1⟩⟩, _⟩ := HS0.out _ hS
  go_wp2_with fail
  clear h_t1 h_t2 h_t3
  rcases Nat.eq_zero_or_pos (Nat.gcd na.natAbs nb.natAbs) with hz | hz
  · have hab := Nat.gcd_eq_zero_iff.1 hz
    have hza : isgn na = 0 := by rw [show na = 0 by omega]; rfl
    have hzb : isgn nb = 0 := by rw [show nb = 0 by omega]; rfl
    have hzg : isgn ((Nat.gcd na.natAbs nb.natAbs : Nat) : Int) = 0 := by rw [hz]; rfl
    have HZA := Lib.hid hza
    have HZB := Lib.hid hzb
    have HZG := Lib.hid hzg
    clear hza hzb hzg hab
    refine (sign_i (h_g.below hS).iv (by omega)).mono ?_
    rintro e u6 ⟨rfl, hbk⟩
    rw [HZG.out]
    replace hS := below_on hS hbk
    clear c_a0 c_a1 c_b0 c_b1 c_g0 c_g1 c_m0 c_m1
    clear hbk
    obtain ⟨⟨⟨c_a0, c_a1⟩, ⟨c_b0, c_b1⟩, ⟨c_g0, c_g1⟩, ⟨c_m0, c_m1⟩⟩, _⟩ := HS0.out _ hS
    go_wp2_with fail
    refine (sign_i (h_a.below hS) (by omega)).mono ?_
    rintro e u7 ⟨rfl, hbk⟩
    rw [HZA.out]
    replace hS := below_on hS hbk
    clear c_a0 c_a1 c_b0 c_b1 c_g0 c_g1 c_m0 c_m1
    clear hbk
    obtain ⟨⟨⟨c_a0, c_a1⟩, ⟨c_b0, c_b1⟩, ⟨c_g0, c_g1⟩, ⟨c_m0, c_m1⟩⟩, _⟩ := HS0.out _ hS
    go_wp2_with fail
    refine (sign_i (h_b.below hS) (by omega)).mono ?_
    rintro e u8 ⟨rfl, hbk⟩
    rw [HZB.out]
    replace hS := below_on hS hbk
    clear c_a0 c_a1 c_b0 c_b1 c_g0 c_g1 c_m0 c_m1
    clear hbk
    obtain ⟨⟨⟨c_a0, c_a1⟩, ⟨c_b0, c_b1⟩, ⟨c_g0, c_g1⟩, ⟨c_m0, c_m1⟩⟩, _⟩ := HS0.out _ hS
    go_wp2_with fail
    clear c_a0 c_a1 c_b0 c_b1 c_g0 c_g1 c_m0 c_m1
    go_ret
    exact ⟨rfl, below_on hw hS⟩
  · have hzg : isgn ((Nat.gcd na.natAbs nb.natAbs : Nat) : Int) = 1 := icmp_gt (by omega)
    have HZG := Lib.hid hzg
    clear hzg
    have hne : ((Nat.gcd na.natAbs nb.natAbs : Nat) : Int) ≠ 0 := by omega
    have HNE := Lib.hid hne
    have HZ := Lib.hid hz
    clear hne hz
    refine (sign_i (h_g.below hS).iv (by omega)).mono ?_
    rintro e u9 ⟨rfl, hbk⟩
    rw [HZG.out]
    replace hS := below_on hS hbk
    clear c_a0 c_a1 c_b0 c_b1 c_g0 c_g1 c_m0 c_m1
    clear hbk
    obtain ⟨⟨⟨c_a0, c_a1⟩, ⟨c_b0, c_b1⟩, ⟨c_g0, c_g1⟩, ⟨c_m0, c_m1⟩⟩, _⟩ := HS0.out _ hS
    go_wp2_with fail
    refine (dm_i (h_a.below hS) (h_g.below hS).iv (by omega) (by omega) HNE.out).mono ?_
    rintro e u10 ⟨vq, vr, rfl, ⟨hv, hv2⟩, hbk⟩
    obtain ⟨dx, Ax, mx, kx, rfl, HD_x, hg_x⟩ := hv.form
    obtain ⟨dr, Ar, mr, kr, rfl, HD_r, hg_r⟩ := hv2.form
    clear hv hv2
    replace hS := below_on hS hbk
    clear c_a0 c_a1 c_b0 c_b1 c_g0 c_g1 c_m0 c_m1
    clear hbk
    go_upto_region 11 with (fail)
    obtain ⟨W11, hWk, p_x, p_r, hbv⟩ := var_new2 u10 dx Ax mx kx dr Ar mr kr
    rw [← hWk]
    obtain ⟨b_r, hbe2⟩ : ∃ b, b = u10.heap.size + 1 := ⟨_, rfl⟩
    rw [← hbe2] at p_r ⊢
    obtain ⟨b_x, hbe⟩ : ∃ b, b = u10.heap.size := ⟨_, rfl⟩
    rw [← hbe] at p_x ⊢
    replace hS := below_on hS hbv
    replace p_a := p_a.below hS
    replace h_a := h_a.below hS
    replace p_b := p_b.below hS
    replace h_b := h_b.below hS
    replace p_g := p_g.below hS
    replace h_g := h_g.below hS
    replace p_m := p_m.below hS
    replace h_m := h_m.below hS
    have h_x := ICan.mk HD_x.out (hg_x.below hbv)
    have h_r := ICan.mk HD_r.out (hg_r.below hbv)
    replace hw := below_on hw hS
    clear hWk hbe hbe2 hS HS0 hg_x HD_x hg_r HD_r hbv
    have hS0 : ∀ w', Below W11.heap.size W11 w' → (fun w' => ((w'.cell? ⟨b_a, 0, none⟩ = some (.bool sa) ∧ w'.cell? ⟨b_a, 1, none⟩ = some (.slice Aa ma ka)) ∧ (w'.cell? ⟨b_b, 0, none⟩ = some (.bool sb) ∧ w'.cell? ⟨b_b, 1, none⟩ = some (.slice Ab mb kb)) ∧ (w'.cell? ⟨b_g, 0, none⟩ = some (.bool dg) ∧ w'.cell? ⟨b_g, 1, none⟩ = some (.slice Ag mg kg)) ∧ (w'.cell? ⟨b_m, 0, none⟩ = some (.bool dm) ∧ w'.cell? ⟨b_m, 1, none⟩ = some (.slice Am mm km)) ∧ (w'.cell? ⟨b_x, 0, none⟩ = some (.bool dx) ∧ w'.cell? ⟨b_x, 1, none⟩ = some (.slice Ax mx kx)) ∧ (w'.cell? ⟨b_r, 0, none⟩ = some (.bool dr) ∧ w'.cell? ⟨b_r, 1, none⟩ = some (.slice Ar mr kr))) ∧ Below W11.heap.size W11 w') w' := fun w' h => ⟨⟨⟨(p_a.below h).facts.2.2.1, (p_a.below h).facts.2.2.2⟩, ⟨(p_b.below h).facts.2.2.1, (p_b.below h).facts.2.2.2⟩, ⟨(p_g.below h).facts.2.2.1, (p_g.below h).facts.2.2.2⟩, ⟨(p_m.below h).facts.2.2.1, (p_m.below h).facts.2.2.2⟩, ⟨(p_x.below h).facts.2.2.1, (p_x.below h).facts.2.2.2⟩, ⟨(p_r.below h).facts.2.2.1, (p_r.below h).facts.2.2.2⟩⟩, h⟩
    have HS0 := Lib.hid hS0
    clear hS0
    have hS : Below W11.heap.size W11 W11 := Below.refl _ _
    obtain ⟨⟨⟨c_a0, c_a1⟩, ⟨c_b0, c_b1⟩, ⟨c_g0, c_g1⟩, ⟨c_m0, c_m1⟩, ⟨c_x0, c_x1⟩, ⟨c_r0, c_r1⟩⟩, _⟩ := HS0.out _ hS
    go_wp2_with fail
    refine (dm_i (h_b.below hS) (h_g.below hS).iv (by omega) (by omega) HNE.out).mono ?_
    rintro e u12 ⟨vq, vr, rfl, ⟨hv, hv2⟩, hbk⟩
    obtain ⟨dy, Ay, my, ky, rfl, HD_y, hg_y⟩ := hv.form
    obtain ⟨dt, At, mt, kt, rfl, HD_t, hg_t⟩ := hv2.form
    clear hv hv2
    replace hS := below_on hS hbk
    clear c_a0 c_a1 c_b0 c_b1 c_g0 c_g1 c_m0 c_m1 c_x0 c_x1 c_r0 c_r1
    clear hbk
    go_upto_region 12 with (fail)
    obtain ⟨W13, hWk, p_y, p_t, hbv⟩ := var_new2 u12 dy Ay my ky dt At mt kt
    rw [← hWk]
    obtain ⟨b_t, hbe2⟩ : ∃ b, b = u12.heap.size + 1 := ⟨_, rfl⟩
    rw [← hbe2] at p_t ⊢
    obtain ⟨b_y, hbe⟩ : ∃ b, b = u12.heap.size := ⟨_, rfl⟩
    rw [← hbe] at p_y ⊢
    replace hS := below_on hS hbv
    replace p_a := p_a.below hS
    replace h_a := h_a.below hS
    replace p_b := p_b.below hS
    replace h_b := h_b.below hS
    replace p_g := p_g.below hS
    replace h_g := h_g.below hS
    replace p_m := p_m.below hS
    replace h_m := h_m.below hS
    replace p_x := p_x.below hS
    replace h_x := h_x.below hS
    replace p_r := p_r.below hS
    replace h_r := h_r.below hS
    have h_y := ICan.mk HD_y.out (hg_y.below hbv)
    have h_t := ICan.mk HD_t.out (hg_t.below hbv)
    replace hw := below_on hw hS
    clear hWk hbe hbe2 hS HS0 hg_y HD_y hg_t HD_t hbv
    have hS0 : ∀ w', Below W13.heap.size W13 w' → (fun w' => ((w'.cell? ⟨b_a, 0, none⟩ = some (.bool sa) ∧ w'.cell? ⟨b_a, 1, none⟩ = some (.slice Aa ma ka)) ∧ (w'.cell? ⟨b_b, 0, none⟩ = some (.bool sb) ∧ w'.cell? ⟨b_b, 1, none⟩ = some (.slice Ab mb kb)) ∧ (w'.cell? ⟨b_g, 0, none⟩ = some (.bool dg) ∧ w'.cell? ⟨b_g, 1, none⟩ = some (.slice Ag mg kg)) ∧ (w'.cell? ⟨b_m, 0, none⟩ = some (.bool dm) ∧ w'.cell? ⟨b_m, 1, none⟩ = some (.slice Am mm km)) ∧ (w'.cell? ⟨b_x, 0, none⟩ = some (.bool dx) ∧ w'.cell? ⟨b_x, 1, none⟩ = some (.slice Ax mx kx)) ∧ (w'.cell? ⟨b_r, 0, none⟩ = some (.bool dr) ∧ w'.cell? ⟨b_r, 1, none⟩ = some (.slice Ar mr kr)) ∧ (w'.cell? ⟨b_y, 0, none⟩ = some (.bool dy) ∧ w'.cell? ⟨b_y, 1, none⟩ = some (.slice Ay my ky)) ∧ (w'.cell? ⟨b_t, 0, none⟩ = some (.bool dt) ∧ w'.cell? ⟨b_t, 1, none⟩ = some (.slice At mt kt))) ∧ Below W13.heap.size W13 w') w' := fun w' h => ⟨⟨⟨(p_a.below h).facts.2.2.1, (p_a.below h).facts.2.2.2⟩, ⟨(p_b.below h).facts.2.2.1, (p_b.below h).facts.2.2.2⟩, ⟨(p_g.below h).facts.2.2.1, (p_g.below h).facts.2.2.2⟩, ⟨(p_m.below h).facts.2.2.1, (p_m.below h).facts.2.2.2⟩, ⟨(p_x.below h).facts.2.2.1, (p_x.below h).facts.2.2.2⟩, ⟨(p_r.below h).facts.2.2.1, (p_r.below h).facts.2.2.2⟩, ⟨(p_y.below h).facts.2.2.1, (p_y.below h).facts.2.2.2⟩, ⟨(p_t.below h).facts.2.2.1, (p_t.below h).facts.2.2.2⟩⟩, h⟩
    have HS0 := Lib.hid hS0
    clear hS0
    have hS : Below W13.heap.size W13 W13 := Below.refl _ _
    obtain ⟨⟨⟨c_a0, c_a1⟩, ⟨c_b0, c_b1⟩, ⟨c_g0, c_g1⟩, ⟨c_m0, c_m1⟩, ⟨c_x0, c_x1⟩, ⟨c_r0, c_r1⟩, ⟨c_y0, c_y1⟩, ⟨c_t0, c_t1⟩⟩, _⟩ := HS0.out _ hS
    go_wp2_with fail
    refine (sign_i (h_r.below hS).iv (by omega)).mono ?_
    rintro e u14 ⟨rfl, hbk⟩
    rw [common_left (Nat.gcd_dvd_left na.natAbs nb.natAbs), show isgn 0 = 0 from rfl]
    replace hS := below_on hS hbk
    clear c_a0 c_a1 c_b0 c_b1 c_g0 c_g1 c_m0 c_m1 c_x0 c_x1 c_r0 c_r1 c_y0 c_y1 c_t0 c_t1
    clear hbk
    obtain ⟨⟨⟨c_a0, c_a1⟩, ⟨c_b0, c_b1⟩, ⟨c_g0, c_g1⟩, ⟨c_m0, c_m1⟩, ⟨c_x0, c_x1⟩, ⟨c_r0, c_r1⟩, ⟨c_y0, c_y1⟩, ⟨c_t0, c_t1⟩⟩, _⟩ := HS0.out _ hS
    go_wp2_with fail
    refine (sign_i (h_t.below hS).iv (by omega)).mono ?_
    rintro e u15 ⟨rfl, hbk⟩
    rw [common_left (Nat.gcd_dvd_right na.natAbs nb.natAbs), show isgn 0 = 0 from rfl]
    replace hS := below_on hS hbk
    clear c_a0 c_a1 c_b0 c_b1 c_g0 c_g1 c_m0 c_m1 c_x0 c_x1 c_r0 c_r1 c_y0 c_y1 c_t0 c_t1
    clear hbk
    obtain ⟨⟨⟨c_a0, c_a1⟩, ⟨c_b0, c_b1⟩, ⟨c_g0, c_g1⟩, ⟨c_m0, c_m1⟩, ⟨c_x0, c_x1⟩, ⟨c_r0, c_r1⟩, ⟨c_y0, c_y1⟩, ⟨c_t0, c_t1⟩⟩, _⟩ := HS0.out _ hS
    go_wp2_with fail
    refine (gcd_i (arr_two (K := Ka + Kb + 3) ((h_x.below hS).iv.le (by omega)) ((h_y.below hS).iv.le (by omega)) rfl) (by omega) (by omega)).mono ?_
    rintro e u16 ⟨t1, rfl, h_t1, hbk0⟩
    have hbk := below_on (below_alloc1 _ _) hbk0
    clear hbk0
    rw [fold_gcd, common_apart HZ.out] at h_t1
    replace hS := below_on hS hbk
    clear c_a0 c_a1 c_b0 c_b1 c_g0 c_g1 c_m0 c_m1 c_x0 c_x1 c_r0 c_r1 c_y0 c_y1 c_t0 c_t1
    clear hbk
    obtain ⟨⟨⟨c_a0, c_a1⟩, ⟨c_b0, c_b1⟩, ⟨c_g0, c_g1⟩, ⟨c_m0, c_m1⟩, ⟨c_x0, c_x1⟩, ⟨c_r0, c_r1⟩, ⟨c_y0, c_y1⟩, ⟨c_t0, c_t1⟩⟩, _⟩ := HS0.out _ hS
    go_wp2_with fail
    refine (of_i _ 1 (by omega)).mono ?_
    rintro e u17 ⟨t2, rfl, h_t2, hbk⟩
    replace h_t1 := h_t1.below hbk
    replace hS := below_on hS hbk
    clear c_a0 c_a1 c_b0 c_b1 c_g0 c_g1 c_m0 c_m1 c_x0 c_x1 c_r0 c_r1 c_y0 c_y1 c_t0 c_t1
    clear hbk
    obtain ⟨⟨⟨c_a0, c_a1⟩, ⟨c_b0, c_b1⟩, ⟨c_g0, c_g1⟩, ⟨c_m0, c_m1⟩, ⟨c_x0, c_x1⟩, ⟨c_r0, c_r1⟩, ⟨c_y0, c_y1⟩, ⟨c_t0, c_t1⟩⟩, _⟩ := HS0.out _ hS
    go_wp2_with fail
    refine (cmp_i h_t1.iv h_t2.iv (by omega)).mono ?_
    rintro e u18 ⟨rfl, hbk⟩
    rw [icmp_of (show ((1 : Nat) : Int) = 1 from rfl)]
    replace hS := below_on hS hbk
    clear c_a0 c_a1 c_b0 c_b1 c_g0 c_g1 c_m0 c_m1 c_x0 c_x1 c_r0 c_r1 c_y0 c_y1 c_t0 c_t1
    clear hbk h_t1 h_t2
    go_wp2_with fail
    go_ret
    exact ⟨rfl, below_on hw hS⟩
end Go.Proofs.YtiidghfkdjefgaaDoor

/-
  The walk of riddlelaw02.ZintReckons: it answers true.
-/
import Derived.Test.YtiidghfkdjefgaaDoorZAwake
import Derived.Deep.RegionHeld3
namespace Go.Proofs.YtiidghfkdjefgaaDoor
open Go.RowKit

set_option maxRecDepth 100000 in
set_option maxHeartbeats 40000000 in
theorem walkZintReckons (w : World) (a b : Value) (Ka Kb : Nat) (na nb : Int) (h_a : IV w a Ka na) (h_b : IV w b Kb nb) (hKa : Ka ≤ 1048576) (hKb : Kb ≤ 1048576) :
    Calls Tryd.prog 6 #[a, b] w fun e w' => e = .returned (.bool true) ∧ Below w.heap.size w w' := by
  obtain ⟨sa, xa, ⟨la, rfl, hma⟩, hza⟩ := h_a
  obtain ⟨Aa, ma, ka, rfl⟩ := hma.slice
  have h_a : IV w (.agg #[.bool sa, .slice Aa ma ka]) Ka na := ⟨sa, xa, ⟨_, rfl, hma⟩, hza⟩
  obtain ⟨sb, xb, ⟨lb, rfl, hmb⟩, hzb⟩ := h_b
  obtain ⟨Ab, mb, kb, rfl⟩ := hmb.slice
  have h_b : IV w (.agg #[.bool sb, .slice Ab mb kb]) Kb nb := ⟨sb, xb, ⟨_, rfl, hmb⟩, hzb⟩
  have hw0 : Below w.heap.size w w := Below.refl _ _
  obtain ⟨V0, hV0, p_a, hb0⟩ := var_new w sa Aa ma ka
  obtain ⟨b_a, hb_a⟩ : ∃ b, b = w.heap.size := ⟨_, rfl⟩
  rw [← hb_a] at p_a
  replace hw0 := below_on hw0 hb0
  obtain ⟨V1, hV1, p_b, hb1⟩ := var_new V0 sb Ab mb kb
  obtain ⟨b_b, hb_b⟩ : ∃ b, b = w.heap.size + 1 := ⟨_, rfl⟩
  rw [show V0.heap.size = b_b by rw [hV0, hb_b]; simp] at p_b
  replace p_a := p_a.below hb1
  replace hw0 := below_on hw0 hb1
  replace h_a := h_a.below hw0
  clear hma hza
  replace h_b := h_b.below hw0
  clear hmb hzb
  have HB_a := Lib.hid hb_a
  have HB_b := Lib.hid hb_b
  have HV0 := Lib.hid hV0
  have HV1 := Lib.hid hV1
  clear hb_a hb_b hV0 hV1 hb0 hb1
  have hw := hw0
  clear hw0
  go_enter Tryd.func6, Tryd.ntmps6
  go_wp2_with fail
  try simp only [World.size_alloc]
  rw [← HV0.out]
  rw [← HV1.out]
  try rw [← HB_b.out]
  try rw [← HB_a.out]
  clear HB_a HB_b
  clear HV0 HV1
  have hS0 : ∀ w', Below V1.heap.size V1 w' → (fun w' => ((w'.cell? ⟨b_a, 0, none⟩ = some (.bool sa) ∧ w'.cell? ⟨b_a, 1, none⟩ = some (.slice Aa ma ka)) ∧ (w'.cell? ⟨b_b, 0, none⟩ = some (.bool sb) ∧ w'.cell? ⟨b_b, 1, none⟩ = some (.slice Ab mb kb))) ∧ Below V1.heap.size V1 w') w' := fun w' h => ⟨⟨⟨(p_a.below h).facts.2.2.1, (p_a.below h).facts.2.2.2⟩, ⟨(p_b.below h).facts.2.2.1, (p_b.below h).facts.2.2.2⟩⟩, h⟩
  have HS0 := Lib.hid hS0
  clear hS0
  have hS : Below V1.heap.size V1 V1 := Below.refl _ _
  obtain ⟨σ, eσ⟩ : ∃ q, q = isgn na := ⟨_, rfl⟩
  have Eσ := Lib.hid eσ
  clear eσ
  obtain ⟨γ, eγ⟩ : ∃ q, q = icmp na nb := ⟨_, rfl⟩
  have Eγ := Lib.hid eγ
  clear eγ
  refine (awake_l _).mono ?_
  rintro e u1 ⟨rfl, hbk⟩
  replace hS := below_on hS hbk
  clear hbk
  obtain ⟨⟨⟨c_a0, c_a1⟩, ⟨c_b0, c_b1⟩⟩, _⟩ := HS0.out _ hS
  go_wp2_with fail
  refine (sign_i (h_a.below hS) (by omega)).mono ?_
  rintro e u2 ⟨rfl, hbk⟩
  rw [← Eσ.out]
  replace hS := below_on hS hbk
  clear c_a0 c_a1 c_b0 c_b1
  clear hbk
  obtain ⟨⟨⟨c_a0, c_a1⟩, ⟨c_b0, c_b1⟩⟩, _⟩ := HS0.out _ hS
  go_wp2_with fail
  refine (cmp_i (h_a.below hS) (h_b.below hS) (by omega)).mono ?_
  rintro e u3 ⟨rfl, hbk⟩
  rw [← Eγ.out]
  replace hS := below_on hS hbk
  clear c_a0 c_a1 c_b0 c_b1
  clear hbk
  obtain ⟨⟨⟨c_a0, c_a1⟩, ⟨c_b0, c_b1⟩⟩, _⟩ := HS0.out _ hS
  go_wp2_with fail
  refine (neg_i (h_a.below hS) (by omega)).mono ?_
  rintro e u4 ⟨vv, rfl, hv, hbk⟩
  obtain ⟨dn, An, mn, kn, rfl, HD_n, hg_n⟩ := hv.form
  clear hv
  replace hS := below_on hS hbk
  clear c_a0 c_a1 c_b0 c_b1
  clear hbk
  go_upto_region 5 with (fail)
  obtain ⟨W5, hWk, p_n, hbv⟩ := var_new u4 dn An mn kn
  rw [← hWk]
  obtain ⟨b_n, hbe⟩ : ∃ b, b = u4.heap.size := ⟨_, rfl⟩
  rw [← hbe] at p_n ⊢
  replace hS := below_on hS hbv
  replace p_a := p_a.below hS
  replace h_a := h_a.below hS
  replace p_b := p_b.below hS
  replace h_b := h_b.below hS
  have h_n := ICan.mk HD_n.out (hg_n.below hbv)
  replace hw := below_on hw hS
  clear hWk hbe hS HS0 hg_n HD_n hbv
  have hS0 : ∀ w', Below W5.heap.size W5 w' → (fun w' => ((w'.cell? ⟨b_a, 0, none⟩ = some (.bool sa) ∧ w'.cell? ⟨b_a, 1, none⟩ = some (.slice Aa ma ka)) ∧ (w'.cell? ⟨b_b, 0, none⟩ = some (.bool sb) ∧ w'.cell? ⟨b_b, 1, none⟩ = some (.slice Ab mb kb)) ∧ (w'.cell? ⟨b_n, 0, none⟩ = some (.bool dn) ∧ w'.cell? ⟨b_n, 1, none⟩ = some (.slice An mn kn))) ∧ Below W5.heap.size W5 w') w' := fun w' h => ⟨⟨⟨(p_a.below h).facts.2.2.1, (p_a.below h).facts.2.2.2⟩, ⟨(p_b.below h).facts.2.2.1, (p_b.below h).facts.2.2.2⟩, ⟨(p_n.below h).facts.2.2.1, (p_n.below h).facts.2.2.2⟩⟩, h⟩
  have HS0 := Lib.hid hS0
  clear hS0
  have hS : Below W5.heap.size W5 W5 := Below.refl _ _
  obtain ⟨⟨⟨c_a0, c_a1⟩, ⟨c_b0, c_b1⟩, ⟨c_n0, c_n1⟩⟩, _⟩ := HS0.out _ hS
  go_wp2_with fail
  refine (abs_i (h_a.below hS) (by omega)).mono ?_
  rintro e u6 ⟨vv, rfl, hv, hbk⟩
  obtain ⟨dm, Am, mm, km, rfl, HD_m, hg_m⟩ := hv.form
  clear hv
  replace hS := below_on hS hbk
  clear c_a0 c_a1 c_b0 c_b1 c_n0 c_n1
  clear hbk
  go_upto_region 6 with (fail)
  obtain ⟨W7, hWk, p_m, hbv⟩ := var_new u6 dm Am mm km
  rw [← hWk]
  obtain ⟨b_m, hbe⟩ : ∃ b, b = u6.heap.size := ⟨_, rfl⟩
  rw [← hbe] at p_m ⊢
  replace hS := below_on hS hbv
  replace p_a := p_a.below hS
  replace h_a := h_a.below hS
  replace p_b := p_b.below hS
  replace h_b := h_b.below hS
  replace p_n := p_n.below hS
  replace h_n := h_n.below hS
  have h_m := ICan.mk HD_m.out (hg_m.below hbv)
  replace hw := below_on hw hS
  clear hWk hbe hS HS0 hg_m HD_m hbv
  have hS0 : ∀ w', Below W7.heap.size W7 w' → (fun w' => ((w'.cell? ⟨b_a, 0, none⟩ = some (.bool sa) ∧ w'.cell? ⟨b_a, 1, none⟩ = some (.slice Aa ma ka)) ∧ (w'.cell? ⟨b_b, 0, none⟩ = some (.bool sb) ∧ w'.cell? ⟨b_b, 1, none⟩ = some (.slice Ab mb kb)) ∧ (w'.cell? ⟨b_n, 0, none⟩ = some (.bool dn) ∧ w'.cell? ⟨b_n, 1, none⟩ = some (.slice An mn kn)) ∧ (w'.cell? ⟨b_m, 0, none⟩ = some (.bool dm) ∧ w'.cell? ⟨b_m, 1, none⟩ = some (.slice Am mm km))) ∧ Below W7.heap.size W7 w') w' := fun w' h => ⟨⟨⟨(p_a.below h).facts.2.2.1, (p_a.below h).facts.2.2.2⟩, ⟨(p_b.below h).facts.2.2.1, (p_b.below h).facts.2.2.2⟩, ⟨(p_n.below h).facts.2.2.1, (p_n.below h).facts.2.2.2⟩, ⟨(p_m.below h).facts.2.2.1, (p_m.below h).facts.2.2.2⟩⟩, h⟩
  have HS0 := Lib.hid hS0
  clear hS0
  have hS : Below W7.heap.size W7 W7 := Below.refl _ _
  obtain ⟨⟨⟨c_a0, c_a1⟩, ⟨c_b0, c_b1⟩, ⟨c_n0, c_n1⟩, ⟨c_m0, c_m1⟩⟩, _⟩ := HS0.out _ hS
  go_wp2_with fail
  refine (add_i (h_a.below hS) (h_b.below hS) (by omega)).mono ?_
  rintro e u8 ⟨vv, rfl, hv, hbk⟩
  obtain ⟨dsum, Asum, msum, ksum, rfl, HD_sum, hg_sum⟩ := hv.form
  clear hv
  replace hS := below_on hS hbk
  clear c_a0 c_a1 c_b0 c_b1 c_n0 c_n1 c_m0 c_m1
  clear hbk
  go_upto_region 7 with (fail)
  obtain ⟨W9, hWk, p_sum, hbv⟩ := var_new u8 dsum Asum msum ksum
  rw [← hWk]
  obtain ⟨b_sum, hbe⟩ : ∃ b, b = u8.heap.size := ⟨_, rfl⟩
  rw [← hbe] at p_sum ⊢
  replace hS := below_on hS hbv
  replace p_a := p_a.below hS
  replace h_a := h_a.below hS
  replace p_b := p_b.below hS
  replace h_b := h_b.below hS
  replace p_n := p_n.below hS
  replace h_n := h_n.below hS
  replace p_m := p_m.below hS
  replace h_m := h_m.below hS
  have h_sum := ICan.mk HD_sum.out (hg_sum.below hbv)
  replace hw := below_on hw hS
  clear hWk hbe hS HS0 hg_sum HD_sum hbv
  have hS0 : ∀ w', Below W9.heap.size W9 w' → (fun w' => ((w'.cell? ⟨b_a, 0, none⟩ = some (.bool sa) ∧ w'.cell? ⟨b_a, 1, none⟩ = some (.slice Aa ma ka)) ∧ (w'.cell? ⟨b_b, 0, none⟩ = some (.bool sb) ∧ w'.cell? ⟨b_b, 1, none⟩ = some (.slice Ab mb kb)) ∧ (w'.cell? ⟨b_n, 0, none⟩ = some (.bool dn) ∧ w'.cell? ⟨b_n, 1, none⟩ = some (.slice An mn kn)) ∧ (w'.cell? ⟨b_m, 0, none⟩ = some (.bool dm) ∧ w'.cell? ⟨b_m, 1, none⟩ = some (.slice Am mm km)) ∧ (w'.cell? ⟨b_sum, 0, none⟩ = some (.bool dsum) ∧ w'.cell? ⟨b_sum, 1, none⟩ = some (.slice Asum msum ksum))) ∧ Below W9.heap.size W9 w') w' := fun w' h => ⟨⟨⟨(p_a.below h).facts.2.2.1, (p_a.below h).facts.2.2.2⟩, ⟨(p_b.below h).facts.2.2.1, (p_b.below h).facts.2.2.2⟩, ⟨(p_n.below h).facts.2.2.1, (p_n.below h).facts.2.2.2⟩, ⟨(p_m.below h).facts.2.2.1, (p_m.below h).facts.2.2.2⟩, ⟨(p_sum.below h).facts.2.2.1, (p_sum.below h).facts.2.2.2⟩⟩, h⟩
  have HS0 := Lib.hid hS0
  clear hS0
  have hS : Below W9.heap.size W9 W9 := Below.refl _ _
  obtain ⟨⟨⟨c_a0, c_a1⟩, ⟨c_b0, c_b1⟩, ⟨c_n0, c_n1⟩, ⟨c_m0, c_m1⟩, ⟨c_sum0, c_sum1⟩⟩, _⟩ := HS0.out _ hS
  go_wp2_with fail
  refine (sub_i (h_a.below hS) (h_b.below hS) (by omega)).mono ?_
  rintro e u10 ⟨vv, rfl, hv, hbk⟩
  obtain ⟨dless, Aless, mless, kless, rfl, HD_less, hg_less⟩ := hv.form
  clear hv
  replace hS := below_on hS hbk
  clear c_a0 c_a1 c_b0 c_b1 c_n0 c_n1 c_m0 c_m1 c_sum0 c_sum1
  clear hbk
  go_upto_region 8 with (fail)
  obtain ⟨W11, hWk, p_less, hbv⟩ := var_new u10 dless Aless mless kless
  rw [← hWk]
  obtain ⟨b_less, hbe⟩ : ∃ b, b = u10.heap.size := ⟨_, rfl⟩
  rw [← hbe] at p_less ⊢
  replace hS := below_on hS hbv
  replace p_a := p_a.below hS
  replace h_a := h_a.below hS
  replace p_b := p_b.below hS
  replace h_b := h_b.below hS
  replace p_n := p_n.below hS
  replace h_n := h_n.below hS
  replace p_m := p_m.below hS
  replace h_m := h_m.below hS
  replace p_sum := p_sum.below hS
  replace h_sum := h_sum.below hS
  have h_less := ICan.mk HD_less.out (hg_less.below hbv)
  replace hw := below_on hw hS
  clear hWk hbe hS HS0 hg_less HD_less hbv
  have hS0 : ∀ w', Below W11.heap.size W11 w' → (fun w' => ((w'.cell? ⟨b_a, 0, none⟩ = some (.bool sa) ∧ w'.cell? ⟨b_a, 1, none⟩ = some (.slice Aa ma ka)) ∧ (w'.cell? ⟨b_b, 0, none⟩ = some (.bool sb) ∧ w'.cell? ⟨b_b, 1, none⟩ = some (.slice Ab mb kb)) ∧ (w'.cell? ⟨b_n, 0, none⟩ = some (.bool dn) ∧ w'.cell? ⟨b_n, 1, none⟩ = some (.slice An mn kn)) ∧ (w'.cell? ⟨b_m, 0, none⟩ = some (.bool dm) ∧ w'.cell? ⟨b_m, 1, none⟩ = some (.slice Am mm km)) ∧ (w'.cell? ⟨b_sum, 0, none⟩ = some (.bool dsum) ∧ w'.cell? ⟨b_sum, 1, none⟩ = some (.slice Asum msum ksum)) ∧ (w'.cell? ⟨b_less, 0, none⟩ = some (.bool dless) ∧ w'.cell? ⟨b_less, 1, none⟩ = some (.slice Aless mless kless))) ∧ Below W11.heap.size W11 w') w' := fun w' h => ⟨⟨⟨(p_a.below h).facts.2.2.1, (p_a.below h).facts.2.2.2⟩, ⟨(p_b.below h).facts.2.2.1, (p_b.below h).facts.2.2.2⟩, ⟨(p_n.below h).facts.2.2.1, (p_n.below h).facts.2.2.2⟩, ⟨(p_m.below h).facts.2.2.1, (p_m.below h).facts.2.2.2⟩, ⟨(p_sum.below h).facts.2.2.1, (p_sum.below h).facts.2.2.2⟩, ⟨(p_less.below h).facts.2.2.1, (p_less.below h).facts.2.2.2⟩⟩, h⟩
  have HS0 := Lib.hid hS0
  clear hS0
  have hS : Below W11.heap.size W11 W11 := Below.refl _ _
  obtain ⟨⟨⟨c_a0, c_a1⟩, ⟨c_b0, c_b1⟩, ⟨c_n0, c_n1⟩, ⟨c_m0, c_m1⟩, ⟨c_sum0, c_sum1⟩, ⟨c_less0, c_less1⟩⟩, _⟩ := HS0.out _ hS
  go_wp2_with fail
  refine (mul_i (h_a.below hS) (h_b.below hS) (by omega)).mono ?_
  rintro e u12 ⟨vv, rfl, hv, hbk⟩
  obtain ⟨dtimes, Atimes, mtimes, ktimes, rfl, HD_times, hg_times⟩ := hv.form
  clear hv
  replace hS := below_on hS hbk
  clear c_a0 c_a1 c_b0 c_b1 c_n0 c_n1 c_m0 c_m1 c_sum0 c_sum1 c_less0 c_less1
  clear hbk
  go_upto_region 9 with (fail)
  obtain ⟨W13, hWk, p_times, hbv⟩ := var_new u12 dtimes Atimes mtimes ktimes
  rw [← hWk]
  obtain ⟨b_times, hbe⟩ : ∃ b, b = u12.heap.size := ⟨_, rfl⟩
  rw [← hbe] at p_times ⊢
  replace hS := below_on hS hbv
  replace p_a := p_a.below hS
  replace h_a := h_a.below hS
  replace p_b := p_b.below hS
  replace h_b := h_b.below hS
  replace p_n := p_n.below hS
  replace h_n := h_n.below hS
  replace p_m := p_m.below hS
  replace h_m := h_m.below hS
  replace p_sum := p_sum.below hS
  replace h_sum := h_sum.below hS
  replace p_less := p_less.below hS
  replace h_less := h_less.below hS
  have h_times := ICan.mk HD_times.out (hg_times.below hbv)
  replace hw := below_on hw hS
  clear hWk hbe hS HS0 hg_times HD_times hbv
  have hS0 : ∀ w', Below W13.heap.size W13 w' → (fun w' => ((w'.cell? ⟨b_a, 0, none⟩ = some (.bool sa) ∧ w'.cell? ⟨b_a, 1, none⟩ = some (.slice Aa ma ka)) ∧ (w'.cell? ⟨b_b, 0, none⟩ = some (.bool sb) ∧ w'.cell? ⟨b_b, 1, none⟩ = some (.slice Ab mb kb)) ∧ (w'.cell? ⟨b_n, 0, none⟩ = some (.bool dn) ∧ w'.cell? ⟨b_n, 1, none⟩ = some (.slice An mn kn)) ∧ (w'.cell? ⟨b_m, 0, none⟩ = some (.bool dm) ∧ w'.cell? ⟨b_m, 1, none⟩ = some (.slice Am mm km)) ∧ (w'.cell? ⟨b_sum, 0, none⟩ = some (.bool dsum) ∧ w'.cell? ⟨b_sum, 1, none⟩ = some (.slice Asum msum ksum)) ∧ (w'.cell? ⟨b_less, 0, none⟩ = some (.bool dless) ∧ w'.cell? ⟨b_less, 1, none⟩ = some (.slice Aless mless kless)) ∧ (w'.cell? ⟨b_times, 0, none⟩ = some (.bool dtimes) ∧ w'.cell? ⟨b_times, 1, none⟩ = some (.slice Atimes mtimes ktimes))) ∧ Below W13.heap.size W13 w') w' := fun w' h => ⟨⟨⟨(p_a.below h).facts.2.2.1, (p_a.below h).facts.2.2.2⟩, ⟨(p_b.below h).facts.2.2.1, (p_b.below h).facts.2.2.2⟩, ⟨(p_n.below h).facts.2.2.1, (p_n.below h).facts.2.2.2⟩, ⟨(p_m.below h).facts.2.2.1, (p_m.below h).facts.2.2.2⟩, ⟨(p_sum.below h).facts.2.2.1, (p_sum.below h).facts.2.2.2⟩, ⟨(p_less.below h).facts.2.2.1, (p_less.below h).facts.2.2.2⟩, ⟨(p_times.below h).facts.2.2.1, (p_times.below h).facts.2.2.2⟩⟩, h⟩
  have HS0 := Lib.hid hS0
  clear hS0
  have hS : Below W13.heap.size W13 W13 := Below.refl _ _
  go_region_held3 (fun w' => ((w'.cell? ⟨b_a, 0, none⟩ = some (.bool sa) ∧ w'.cell? ⟨b_a, 1, none⟩ = some (.slice Aa ma ka)) ∧ (w'.cell? ⟨b_b, 0, none⟩ = some (.bool sb) ∧ w'.cell? ⟨b_b, 1, none⟩ = some (.slice Ab mb kb)) ∧ (w'.cell? ⟨b_n, 0, none⟩ = some (.bool dn) ∧ w'.cell? ⟨b_n, 1, none⟩ = some (.slice An mn kn)) ∧ (w'.cell? ⟨b_m, 0, none⟩ = some (.bool dm) ∧ w'.cell? ⟨b_m, 1, none⟩ = some (.slice Am mm km)) ∧ (w'.cell? ⟨b_sum, 0, none⟩ = some (.bool dsum) ∧ w'.cell? ⟨b_sum, 1, none⟩ = some (.slice Asum msum ksum)) ∧ (w'.cell? ⟨b_less, 0, none⟩ = some (.bool dless) ∧ w'.cell? ⟨b_less, 1, none⟩ = some (.slice Aless mless kless)) ∧ (w'.cell? ⟨b_times, 0, none⟩ = some (.bool dtimes) ∧ w'.cell? ⟨b_times, 1, none⟩ = some (.slice Atimes mtimes ktimes))) ∧ Below W13.heap.size W13 w')
    (first | assumption | exact HS0.out _ (by assumption) | exact HS0.out _ (Below.drew (by assumption)) | exact HS0.out _ (below_on (s_below (by assumption)) (below_alloc1 _ _)) | exact HS0.out _ (below_on (by assumption) (below_alloc1 _ _)))
    (first
      | (go_at_call 15; have _q := mk10; clear _q; refine (is_l (h_times.below (s_below (by assumption))) h_t5.iv (by omega) (rfl)).mono ?_; rintro e wn ⟨rfl, hb⟩; have hS2 := below_on (s_below (by assumption)) hb; (try clear hS); have hS := hS2; clear hS2; clear hb; have mk11 : True := trivial)
      | (go_at_call 36; have _q := mk9; clear _q; refine (mul_r (h_a.below (s_below (by assumption))) (h_b.below (s_below (by assumption))) (by omega)).mono ?_; rintro e wn ⟨t5, rfl, h_t5, hb⟩; have hS2 := below_on (s_below (by assumption)) hb; (try clear hS); have hS := hS2; clear hS2; clear hb; have mk10 : True := trivial)
      | (go_at_call 15; have _q := mk8; clear _q; refine (is_l (h_less.below (s_below (by assumption))) h_t4.iv (by omega) (rfl)).mono ?_; rintro e wn ⟨rfl, hb⟩; have hS2 := below_on (s_below (by assumption)) hb; (try clear hS); have hS := hS2; clear hS2; clear hb; have mk9 : True := trivial)
      | (go_at_call 35; have _q := mk7; clear _q; refine (sub_r (h_a.below (s_below (by assumption))) (h_b.below (s_below (by assumption))) (by omega)).mono ?_; rintro e wn ⟨t4, rfl, h_t4, hb⟩; have hS2 := below_on (s_below (by assumption)) hb; (try clear hS); have hS := hS2; clear hS2; clear hb; have mk8 : True := trivial)
      | (go_at_call 15; have _q := mk6; clear _q; refine (is_l (h_sum.below (s_below (by assumption))) h_t3.iv (by omega) (rfl)).mono ?_; rintro e wn ⟨rfl, hb⟩; have hS2 := below_on (s_below (by assumption)) hb; (try clear hS); have hS := hS2; clear hS2; clear hb; have mk7 : True := trivial)
      | (go_at_call 34; have _q := mk5; clear _q; refine (add_r (h_a.below (s_below (by assumption))) (h_b.below (s_below (by assumption))) (by omega)).mono ?_; rintro e wn ⟨t3, rfl, h_t3, hb⟩; have hS2 := below_on (s_below (by assumption)) hb; (try clear hS); have hS := hS2; clear hS2; clear hb; have mk6 : True := trivial)
      | (go_at_call 15; have _q := mk4; clear _q; refine (is_l (h_m.below (s_below (by assumption))) h_t2.iv (by omega) (rfl)).mono ?_; rintro e wn ⟨rfl, hb⟩; have hS2 := below_on (s_below (by assumption)) hb; (try clear hS); have hS := hS2; clear hS2; clear hb; have mk5 : True := trivial)
      | (go_at_call 33; have _q := mk3; clear _q; refine (abs_r (h_a.below (s_below (by assumption))) (by omega)).mono ?_; rintro e wn ⟨t2, rfl, h_t2, hb⟩; have hS2 := below_on (s_below (by assumption)) hb; (try clear hS); have hS := hS2; clear hS2; clear hb; have mk4 : True := trivial)
      | (go_at_call 15; have _q := mk2; clear _q; refine (is_l (h_n.below (s_below (by assumption))) h_t1.iv (by omega) (rfl)).mono ?_; rintro e wn ⟨rfl, hb⟩; have hS2 := below_on (s_below (by assumption)) hb; (try clear hS); have hS := hS2; clear hS2; clear hb; have mk3 : True := trivial)
      | (go_at_call 32; have _q := mk1; clear _q; refine (neg_r (h_a.below (s_below (by assumption))) (by omega)).mono ?_; rintro e wn ⟨t1, rfl, h_t1, hb⟩; have hS2 := below_on (s_below (by assumption)) hb; (try clear hS); have hS := hS2; clear hS2; clear hb; have mk2 : True := trivial)
      | (go_at_call 31; have _q := mk0; clear _q; refine (cmp_r (h_a.below (s_below (by assumption))) (h_b.below (s_below (by assumption))) (by omega)).mono ?_; rintro e wn ⟨rfl, hb⟩; have hS2 := below_on (s_below (by assumption)) hb; (try clear hS); have hS := hS2; clear hS2; rw [← Eγ.out]; clear hb; have mk1 : True := trivial)
      | (go_at_call 30; refine (sign_r (h_a.below (s_below (by assumption))) (by omega)).mono ?_; rintro e wn ⟨rfl, hb⟩; have hS2 := below_on (s_below (by assumption)) hb; (try clear hS); have hS := hS2; clear hS2; rw [← Eσ.out]; clear hb; have mk0 : True := trivial))
  all_goals
    go_wp2_with fail
    go_ret
    exact ⟨rfl, below_on hw hS⟩
end Go.Proofs.YtiidghfkdjefgaaDoor

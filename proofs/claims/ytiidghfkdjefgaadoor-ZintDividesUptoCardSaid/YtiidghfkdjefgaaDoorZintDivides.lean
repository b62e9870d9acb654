/-
  The walk of riddlelaw02.ZintDivides: it answers true.
-/
import Derived.Test.YtiidghfkdjefgaaDoorZAwake
import Derived.Deep.RegionHeld3
import Derived.Test.YtiidghfkdjefgaaDoorZRdm
namespace Go.Proofs.YtiidghfkdjefgaaDoor
open Go.RowKit

set_option maxRecDepth 100000 in
set_option maxHeartbeats 40000000 in
theorem walkZintDivides (w : World) (a b : Value) (Ka Kb : Nat) (na nb : Int) (h_a : IV w a Ka na) (h_b : IV w b Kb nb) (hKa : Ka ≤ 1048576) (hKb : Kb ≤ 1048576) :
    Calls Tryd.prog 3 #[a, b] w fun e w' => e = .returned (.bool true) ∧ Below w.heap.size w w' := by
  obtain ⟨sa, xa, ⟨la, rfl, hma⟩, hza⟩ := h_a
  obtain ⟨Aa, ma, ka, rfl⟩ := hma.slice
  have h_a : IV w (.agg #[.bool sa, .slice Aa ma ka]) Ka na := ⟨sa, xa, ⟨_, rfl, hma⟩, hza⟩
  obtain ⟨sb, xb, ⟨lb, rfl, hmb⟩, hzb⟩ := h_b
  obtain ⟨Ab, mb, kb, rfl⟩ := hmb.slice
  have h_b : IV w (.agg #[.bool sb, .slice Ab mb kb]) Kb nb := ⟨sb, xb, ⟨_, rfl, hmb⟩, hzb⟩
  have hw0 : Below w.heap.size w w := Below.refl _ _
  obtain ⟨V0, hV0, p_a, hb0⟩ := var_new w sa Aa ma ka
  obtain ⟨b_a, hb_a⟩ : ∃ b, b = w.heap.size := ⟨_, rfl⟩
  rw [← hb_a] at p_a
  replace hw0 := below_on hw0 hb0
  obtain ⟨V1, hV1, p_b, hb1⟩ := var_new V0 sb Ab mb kb
  obtain ⟨b_b, hb_b⟩ : ∃ b, b = w.heap.size + 1 := ⟨_, rfl⟩
  rw [show V0.heap.size = b_b by rw [hV0, hb_b]; simp] at p_b
  replace p_a := p_a.below hb1
  replace hw0 := below_on hw0 hb1
  replace h_a := h_a.below hw0
  clear hma hza
  replace h_b := h_b.below hw0
  clear hmb hzb
  have HB_a := Lib.hid hb_a
  have HB_b := Lib.hid hb_b
  have HV0 := Lib.hid hV0
  have HV1 := Lib.hid hV1
  clear hb_a hb_b hV0 hV1 hb0 hb1
  have hw := hw0
  clear hw0
  go_enter Tryd.func3, Tryd.ntmps3
  go_wp2_with fail
  try simp only [World.size_alloc]
  rw [← HV0.out]
  rw [← HV1.out]
  try rw [← HB_b.out]
  try rw [← HB_a.out]
  clear HB_a HB_b
  clear HV0 HV1
  have hS0 : ∀ w', Below V1.heap.size V1 w' → (fun w' => ((w'.cell? ⟨b_a, 0, none⟩ = some (.bool sa) ∧ w'.cell? ⟨b_a, 1, none⟩ = some (.slice Aa ma ka)) ∧ (w'.cell? ⟨b_b, 0, none⟩ = some (.bool sb) ∧ w'.cell? ⟨b_b, 1, none⟩ = some (.slice Ab mb kb))) ∧ Below V1.heap.size V1 w') w' := fun w' h => ⟨⟨⟨(p_a.below h).facts.2.2.1, (p_a.below h).facts.2.2.2⟩, ⟨(p_b.below h).facts.2.2.1, (p_b.below h).facts.2.2.2⟩⟩, h⟩
  have HS0 := Lib.hid hS0
  clear hS0
  have hS : Below V1.heap.size V1 V1 := Below.refl _ _
  refine (awake_l _).mono ?_
  rintro e u1 ⟨rfl, hbk⟩
  replace hS := below_on hS hbk
  clear hbk
  obtain ⟨⟨⟨c_a0, c_a1⟩, ⟨c_b0, c_b1⟩⟩, _⟩ := HS0.out _ hS
  go_wp2_with fail
  by_cases hz : nb = 0
  · refine (dm_i0 (h_a.below hS) (h_b.below hS) (by omega) (by omega) hz).mono ?_
    rintro e u2 ⟨vq, vr, rfl, ⟨hv, hv2⟩, hbk⟩
    obtain ⟨dq, Aq, mq, kq, rfl, HD_q, hg_q⟩ := hv.form
    obtain ⟨dr, Ar, mr, kr, rfl, HD_r, hg_r⟩ := hv2.form
    clear hv hv2
    replace hS := below_on hS hbk
    clear c_a0 c_a1 c_b0 c_b1
    clear hbk
    go_upto_region 3 with (fail)
    obtain ⟨W3, hWk, p_q, p_r, hbv⟩ := var_new2 u2 dq Aq mq kq dr Ar mr kr
    rw [← hWk]
    obtain ⟨b_r, hbe2⟩ : ∃ b, b = u2.heap.size + 1 := ⟨_, rfl⟩
    rw [← hbe2] at p_r ⊢
    obtain ⟨b_q, hbe⟩ : ∃ b, b = u2.heap.size := ⟨_, rfl⟩
    rw [← hbe] at p_q ⊢
    replace hS := below_on hS hbv
    replace p_a := p_a.below hS
    replace h_a := h_a.below hS
    replace p_b := p_b.below hS
    replace h_b := h_b.below hS
    have h_q := ICan.mk HD_q.out (hg_q.below hbv)
    have h_r := ICan.mk HD_r.out (hg_r.below hbv)
    replace hw := below_on hw hS
    clear hWk hbe hbe2 hS HS0 hg_q HD_q hg_r HD_r hbv
    have hS0 : ∀ w', Below W3.heap.size W3 w' → (fun w' => ((w'.cell? ⟨b_a, 0, none⟩ = some (.bool sa) ∧ w'.cell? ⟨b_a, 1, none⟩ = some (.slice Aa ma ka)) ∧ (w'.cell? ⟨b_b, 0, none⟩ = some (.bool sb) ∧ w'.cell? ⟨b_b, 1, none⟩ = some (.slice Ab mb kb)) ∧ (w'.cell? ⟨b_q, 0, none⟩ = some (.bool dq) ∧ w'.cell? ⟨b_q, 1, none⟩ = some (.slice Aq mq kq)) ∧ (w'.cell? ⟨b_r, 0, none⟩ = some (.bool dr) ∧ w'.cell? ⟨b_r, 1, none⟩ = some (.slice Ar mr kr))) ∧ Below W3.heap.size W3 w') w' := fun w' h => ⟨⟨⟨(p_a.below h).facts.2.2.1, (p_a.below h).facts.2.2.2⟩, ⟨(p_b.below h).facts.2.2.1, (p_b.below h).facts.2.2.2⟩, ⟨(p_q.below h).facts.2.2.1, (p_q.below h).facts.2.2.2⟩, ⟨(p_r.below h).facts.2.2.1, (p_r.below h).facts.2.2.2⟩⟩, h⟩
    have HS0 := Lib.hid hS0
    clear hS0
    have hS : Below W3.heap.size W3 W3 := Below.refl _ _
    obtain ⟨⟨⟨c_a0, c_a1⟩, ⟨c_b0, c_b1⟩, ⟨c_q0, c_q1⟩, ⟨c_r0, c_r1⟩⟩, _⟩ := HS0.out _ hS
    go_wp2_with fail
    refine (dm_r0 (h_a.below hS) (h_b.below hS) (by omega) (by omega) hz).mono ?_
    rintro e u4 ⟨vq, vr, rfl, ⟨hv, hv2⟩, hbk⟩
    obtain ⟨dx, Ax, mx, kx, rfl, HD_x, hg_x⟩ := hv.form
    obtain ⟨dy, Ay, my, ky, rfl, HD_y, hg_y⟩ := hv2.form
    clear hv hv2
    replace hS := below_on hS hbk
    clear c_a0 c_a1 c_b0 c_b1 c_q0 c_q1 c_r0 c_r1
    clear hbk
    go_upto_region 4 with (fail)
    obtain ⟨W5, hWk, p_x, p_y, hbv⟩ := var_new2 u4 dx Ax mx kx dy Ay my ky
    rw [← hWk]
    obtain ⟨b_y, hbe2⟩ : ∃ b, b = u4.heap.size + 1 := ⟨_, rfl⟩
    rw [← hbe2] at p_y ⊢
    obtain ⟨b_x, hbe⟩ : ∃ b, b = u4.heap.size := ⟨_, rfl⟩
    rw [← hbe] at p_x ⊢
    replace hS := below_on hS hbv
    replace p_a := p_a.below hS
    replace h_a := h_a.below hS
    replace p_b := p_b.below hS
    replace h_b := h_b.below hS
    replace p_q := p_q.below hS
    replace h_q := h_q.below hS
    replace p_r := p_r.below hS
    replace h_r := h_r.below hS
    have h_x := ICan.mk HD_x.out (hg_x.below hbv)
    have h_y := ICan.mk HD_y.out (hg_y.below hbv)
    replace hw := below_on hw hS
    clear hWk hbe hbe2 hS HS0 hg_x HD_x hg_y HD_y hbv
    have hS0 : ∀ w', Below W5.heap.size W5 w' → (fun w' => ((w'.cell? ⟨b_a, 0, none⟩ = some (.bool sa) ∧ w'.cell? ⟨b_a, 1, none⟩ = some (.slice Aa ma ka)) ∧ (w'.cell? ⟨b_b, 0, none⟩ = some (.bool sb) ∧ w'.cell? ⟨b_b, 1, none⟩ = some (.slice Ab mb kb)) ∧ (w'.cell? ⟨b_q, 0, none⟩ = some (.bool dq) ∧ w'.cell? ⟨b_q, 1, none⟩ = some (.slice Aq mq kq)) ∧ (w'.cell? ⟨b_r, 0, none⟩ = some (.bool dr) ∧ w'.cell? ⟨b_r, 1, none⟩ = some (.slice Ar mr kr)) ∧ (w'.cell? ⟨b_x, 0, none⟩ = some (.bool dx) ∧ w'.cell? ⟨b_x, 1, none⟩ = some (.slice Ax mx kx)) ∧ (w'.cell? ⟨b_y, 0, none⟩ = some (.bool dy) ∧ w'.cell? ⟨b_y, 1, none⟩ = some (.slice Ay my ky))) ∧ Below W5.heap.size W5 w') w' := fun w' h => ⟨⟨⟨(p_a.below h).facts.2.2.1, (p_a.below h).facts.2.2.2⟩, ⟨(p_b.below h).facts.2.2.1, (p_b.below h).facts.2.2.2⟩, ⟨(p_q.below h).facts.2.2.1, (p_q.below h).facts.2.2.2⟩, ⟨(p_r.below h).facts.2.2.1, (p_r.below h).facts.2.2.2⟩, ⟨(p_x.below h).facts.2.2.1, (p_x.below h).facts.2.2.2⟩, ⟨(p_y.below h).facts.2.2.1, (p_y.below h).facts.2.2.2⟩⟩, h⟩
    have HS0 := Lib.hid hS0
    clear hS0
    have hS : Below W5.heap.size W5 W5 := Below.refl _ _
    obtain ⟨⟨⟨c_a0, c_a1⟩, ⟨c_b0, c_b1⟩, ⟨c_q0, c_q1⟩, ⟨c_r0, c_r1⟩, ⟨c_x0, c_x1⟩, ⟨c_y0, c_y1⟩⟩, _⟩ := HS0.out _ hS
    go_wp2_with fail
    refine (is_l (h_q.below hS) (h_x.below hS).iv (by omega) rfl).mono ?_
    rintro e u6 ⟨rfl, hbk⟩
    replace hS := below_on hS hbk
    clear c_a0 c_a1 c_b0 c_b1 c_q0 c_q1 c_r0 c_r1 c_x0 c_x1 c_y0 c_y1
    clear hbk
    obtain ⟨⟨⟨c_a0, c_a1⟩, ⟨c_b0, c_b1⟩, ⟨c_q0, c_q1⟩, ⟨c_r0, c_r1⟩, ⟨c_x0, c_x1⟩, ⟨c_y0, c_y1⟩⟩, _⟩ := HS0.out _ hS
    go_wp2_with fail
    refine (is_l (h_r.below hS) (h_y.below hS).iv (by omega) rfl).mono ?_
    rintro e u7 ⟨rfl, hbk⟩
    replace hS := below_on hS hbk
    clear c_a0 c_a1 c_b0 c_b1 c_q0 c_q1 c_r0 c_r1 c_x0 c_x1 c_y0 c_y1
    clear hbk
    obtain ⟨⟨⟨c_a0, c_a1⟩, ⟨c_b0, c_b1⟩, ⟨c_q0, c_q1⟩, ⟨c_r0, c_r1⟩, ⟨c_x0, c_x1⟩, ⟨c_y0, c_y1⟩⟩, _⟩ := HS0.out _ hS
    go_wp2_with fail
    clear c_a0 c_a1 c_b0 c_b1 c_q0 c_q1 c_r0 c_r1 c_x0 c_x1 c_y0 c_y1
    go_ret
    exact ⟨rfl, below_on hw hS⟩
  · refine (dm_i (h_a.below hS) (h_b.below hS) (by omega) (by omega) hz).mono ?_
    rintro e u8 ⟨vq, vr, rfl, ⟨hv, hv2⟩, hbk⟩
    obtain ⟨dq, Aq, mq, kq, rfl, HD_q, hg_q⟩ := hv.form
    obtain ⟨dr, Ar, mr, kr, rfl, HD_r, hg_r⟩ := hv2.form
    clear hv hv2
    replace hS := below_on hS hbk
    clear c_a0 c_a1 c_b0 c_b1
    clear hbk
    go_upto_region 3 with (fail)
    obtain ⟨W9, hWk, p_q, p_r, hbv⟩ := var_new2 u8 dq Aq mq kq dr Ar mr kr
    rw [← hWk]
    obtain ⟨b_r, hbe2⟩ : ∃ b, b = u8.heap.size + 1 := ⟨_, rfl⟩
    rw [← hbe2] at p_r ⊢
    obtain ⟨b_q, hbe⟩ : ∃ b, b = u8.heap.size := ⟨_, rfl⟩
    rw [← hbe] at p_q ⊢
    replace hS := below_on hS hbv
    replace p_a := p_a.below hS
    replace h_a := h_a.below hS
    replace p_b := p_b.below hS
    replace h_b := h_b.below hS
    have h_q := ICan.mk HD_q.out (hg_q.below hbv)
    have h_r := ICan.mk HD_r.out (hg_r.below hbv)
    replace hw := below_on hw hS
    clear hWk hbe hbe2 hS HS0 hg_q HD_q hg_r HD_r hbv
    have hS0 : ∀ w', Below W9.heap.size W9 w' → (fun w' => ((w'.cell? ⟨b_a, 0, none⟩ = some (.bool sa) ∧ w'.cell? ⟨b_a, 1, none⟩ = some (.slice Aa ma ka)) ∧ (w'.cell? ⟨b_b, 0, none⟩ = some (.bool sb) ∧ w'.cell? ⟨b_b, 1, none⟩ = some (.slice Ab mb kb)) ∧ (w'.cell? ⟨b_q, 0, none⟩ = some (.bool dq) ∧ w'.cell? ⟨b_q, 1, none⟩ = some (.slice Aq mq kq)) ∧ (w'.cell? ⟨b_r, 0, none⟩ = some (.bool dr) ∧ w'.cell? ⟨b_r, 1, none⟩ = some (.slice Ar mr kr))) ∧ Below W9.heap.size W9 w') w' := fun w' h => ⟨⟨⟨(p_a.below h).facts.2.2.1, (p_a.below h).facts.2.2.2⟩, ⟨(p_b.below h).facts.2.2.1, (p_b.below h).facts.2.2.2⟩, ⟨(p_q.below h).facts.2.2.1, (p_q.below h).facts.2.2.2⟩, ⟨(p_r.below h).facts.2.2.1, (p_r.below h).facts.2.2.2⟩⟩, h⟩
    have HS0 := Lib.hid hS0
    clear hS0
    have hS : Below W9.heap.size W9 W9 := Below.refl _ _
    obtain ⟨⟨⟨c_a0, c_a1⟩, ⟨c_b0, c_b1⟩, ⟨c_q0, c_q1⟩, ⟨c_r0, c_r1⟩⟩, _⟩ := HS0.out _ hS
    go_wp2_with fail
    refine (dm_r (h_a.below hS) (h_b.below hS) (by omega) (by omega) hz).mono ?_
    rintro e u10 ⟨vq, vr, rfl, ⟨hv, hv2⟩, hbk⟩
    obtain ⟨dx, Ax, mx, kx, rfl, HD_x, hg_x⟩ := hv.form
    obtain ⟨dy, Ay, my, ky, rfl, HD_y, hg_y⟩ := hv2.form
    clear hv hv2
    replace hS := below_on hS hbk
    clear c_a0 c_a1 c_b0 c_b1 c_q0 c_q1 c_r0 c_r1
    clear hbk
    go_upto_region 4 with (fail)
    obtain ⟨W11, hWk, p_x, p_y, hbv⟩ := var_new2 u10 dx Ax mx kx dy Ay my ky
    rw [← hWk]
    obtain ⟨b_y, hbe2⟩ : ∃ b, b = u10.heap.size + 1 := ⟨_, rfl⟩
    rw [← hbe2] at p_y ⊢
    obtain ⟨b_x, hbe⟩ : ∃ b, b = u10.heap.size := ⟨_, rfl⟩
    rw [← hbe] at p_x ⊢
    replace hS := below_on hS hbv
    replace p_a := p_a.below hS
    replace h_a := h_a.below hS
    replace p_b := p_b.below hS
    replace h_b := h_b.below hS
    replace p_q := p_q.below hS
    replace h_q := h_q.below hS
    replace p_r := p_r.below hS
    replace h_r := h_r.below hS
    have h_x := ICan.mk HD_x.out (hg_x.below hbv)
    have h_y := ICan.mk HD_y.out (hg_y.below hbv)
    replace hw := below_on hw hS
    clear hWk hbe hbe2 hS HS0 hg_x HD_x hg_y HD_y hbv
    have hS0 : ∀ w', Below W11.heap.size W11 w' → (fun w' => ((w'.cell? ⟨b_a, 0, none⟩ = some (.bool sa) ∧ w'.cell? ⟨b_a, 1, none⟩ = some (.slice Aa ma ka)) ∧ (w'.cell? ⟨b_b, 0, none⟩ = some (.bool sb) ∧ w'.cell? ⟨b_b, 1, none⟩ = some (.slice Ab mb kb)) ∧ (w'.cell? ⟨b_q, 0, none⟩ = some (.bool dq) ∧ w'.cell? ⟨b_q, 1, none⟩ = some (.slice Aq mq kq)) ∧ (w'.cell? ⟨b_r, 0, none⟩ = some (.bool dr) ∧ w'.cell? ⟨b_r, 1, none⟩ = some (.slice Ar mr kr)) ∧ (w'.cell? ⟨b_x, 0, none⟩ = some (.bool dx) ∧ w'.cell? ⟨b_x, 1, none⟩ = some (.slice Ax mx kx)) ∧ (w'.cell? ⟨b_y, 0, none⟩ = some (.bool dy) ∧ w'.cell? ⟨b_y, 1, none⟩ = some (.slice Ay my ky))) ∧ Below W11.heap.size W11 w') w' := fun w' h => ⟨⟨⟨(p_a.below h).facts.2.2.1, (p_a.below h).facts.2.2.2⟩, ⟨(p_b.below h).facts.2.2.1, (p_b.below h).facts.2.2.2⟩, ⟨(p_q.below h).facts.2.2.1, (p_q.below h).facts.2.2.2⟩, ⟨(p_r.below h).facts.2.2.1, (p_r.below h).facts.2.2.2⟩, ⟨(p_x.below h).facts.2.2.1, (p_x.below h).facts.2.2.2⟩, ⟨(p_y.below h).facts.2.2.1, (p_y.below h).facts.2.2.2⟩⟩, h⟩
    have HS0 := Lib.hid hS0
    clear hS0
    have hS : Below W11.heap.size W11 W11 := Below.refl _ _
    obtain ⟨⟨⟨c_a0, c_a1⟩, ⟨c_b0, c_b1⟩, ⟨c_q0, c_q1⟩, ⟨c_r0, c_r1⟩, ⟨c_x0, c_x1⟩, ⟨c_y0, c_y1⟩⟩, _⟩ := HS0.out _ hS
    go_wp2_with fail
    refine (is_l (h_q.below hS) (h_x.below hS).iv (by omega) rfl).mono ?_
    rintro e u12 ⟨rfl, hbk⟩
    replace hS := below_on hS hbk
    clear c_a0 c_a1 c_b0 c_b1 c_q0 c_q1 c_r0 c_r1 c_x0 c_x1 c_y0 c_y1
    clear hbk
    obtain ⟨⟨⟨c_a0, c_a1⟩, ⟨c_b0, c_b1⟩, ⟨c_q0, c_q1⟩, ⟨c_r0, c_r1⟩, ⟨c_x0, c_x1⟩, ⟨c_y0, c_y1⟩⟩, _⟩ := HS0.out _ hS
    go_wp2_with fail
    refine (is_l (h_r.below hS) (h_y.below hS).iv (by omega) rfl).mono ?_
    rintro e u13 ⟨rfl, hbk⟩
    replace hS := below_on hS hbk
    clear c_a0 c_a1 c_b0 c_b1 c_q0 c_q1 c_r0 c_r1 c_x0 c_x1 c_y0 c_y1
    clear hbk
    obtain ⟨⟨⟨c_a0, c_a1⟩, ⟨c_b0, c_b1⟩, ⟨c_q0, c_q1⟩, ⟨c_r0, c_r1⟩, ⟨c_x0, c_x1⟩, ⟨c_y0, c_y1⟩⟩, _⟩ := HS0.out _ hS
    go_wp2_with fail
    clear c_a0 c_a1 c_b0 c_b1 c_q0 c_q1 c_r0 c_r1 c_x0 c_x1 c_y0 c_y1
    go_ret
    exact ⟨rfl, below_on hw hS⟩
end Go.Proofs.YtiidghfkdjefgaaDoor

/-
  The walk of riddlelaw02.ZintRing: it answers true.
-/
import Derived.Test.YtiidghfkdjefgaaDoorZAwake
import Derived.Deep.RegionHeld3
namespace Go.Proofs.YtiidghfkdjefgaaDoor
open Go.RowKit

theorem icmp_of {x y : Int} (h : x = y) : icmp x y = 0 := by rw [h, icmp_eq]

set_option maxRecDepth 100000 in
set_option maxHeartbeats 40000000 in
theorem walkZintRing (w : World) (a b c : Value) (Ka Kb Kc : Nat) (na nb nc : Int) (h_a : IV w a Ka na) (h_b : IV w b Kb nb) (h_c : IV w c Kc nc) (hKa : Ka ≤ 1048576) (hKb : Kb ≤ 1048576) (hKc : Kc ≤ 1048576) :
    Calls Tryd.prog 5 #[a, b, c] w fun e w' => e = .returned (.bool true) ∧ Below w.heap.size w w' := by
  obtain ⟨sa, xa, ⟨la, rfl, hma⟩, hza⟩ := h_a
  obtain ⟨Aa, ma, ka, rfl⟩ := hma.slice
  have h_a : IV w (.agg #[.bool sa, .slice Aa ma ka]) Ka na := ⟨sa, xa, ⟨_, rfl, hma⟩, hza⟩
  obtain ⟨sb, xb, ⟨lb, rfl, hmb⟩, hzb⟩ := h_b
  obtain ⟨Ab, mb, kb, rfl⟩ := hmb.slice
  have h_b : IV w (.agg #[.bool sb, .slice Ab mb kb]) Kb nb := ⟨sb, xb, ⟨_, rfl, hmb⟩, hzb⟩
  obtain ⟨sc, xc, ⟨lc, rfl, hmc⟩, hzc⟩ := h_c
  obtain ⟨Ac, mc, kc, rfl⟩ := hmc.slice
  have h_c : IV w (.agg #[.bool sc, .slice Ac mc kc]) Kc nc := ⟨sc, xc, ⟨_, rfl, hmc⟩, hzc⟩
  have hw0 : Below w.heap.size w w := Below.refl _ _
  obtain ⟨V0, hV0, p_a, hb0⟩ := var_new w sa Aa ma ka
  obtain ⟨b_a, hb_a⟩ : ∃ b, b = w.heap.size := ⟨_, rfl⟩
  rw [← hb_a] at p_a
  replace hw0 := below_on hw0 hb0
  obtain ⟨V1, hV1, p_b, hb1⟩ := var_new V0 sb Ab mb kb
  obtain ⟨b_b, hb_b⟩ : ∃ b, b = w.heap.size + 1 := ⟨_, rfl⟩
  rw [show V0.heap.size = b_b by rw [hV0, hb_b]; simp] at p_b
  replace p_a := p_a.below hb1
  replace hw0 := below_on hw0 hb1
  obtain ⟨V2, hV2, p_c, hb2⟩ := var_new V1 sc Ac mc kc
  obtain ⟨b_c, hb_c⟩ : ∃ b, b = w.heap.size + 1 + 1 := ⟨_, rfl⟩
  rw [show V1.heap.size = b_c by rw [hV1, hV0, hb_c]; simp] at p_c
  replace p_a := p_a.below hb2
  replace p_b := p_b.below hb2
  replace hw0 := below_on hw0 hb2
  replace h_a := h_a.below hw0
  clear hma hza
  replace h_b := h_b.below hw0
  clear hmb hzb
  replace h_c := h_c.below hw0
  clear hmc hzc
  have HB_a := Lib.hid hb_a
  have HB_b := Lib.hid hb_b
  have HB_c := Lib.hid hb_c
  have HV0 := Lib.hid hV0
  have HV1 := Lib.hid hV1
  have HV2 := Lib.hid hV2
  clear hb_a hb_b hb_c hV0 hV1 hV2 hb0 hb1 hb2
  have hw := hw0
  clear hw0
  go_enter Tryd.func5, Tryd.ntmps5
  go_wp2_with fail
  try simp only [World.size_alloc]
  rw [← HV0.out]
  rw [← HV1.out]
  rw [← HV2.out]
  try rw [← HB_c.out]
  try rw [← HB_b.out]
  try rw [← HB_a.out]
  clear HB_a HB_b HB_c
  clear HV0 HV1 HV2
  have hS0 : ∀ w', Below V2.heap.size V2 w' → (fun w' => ((w'.cell? ⟨b_a, 0, none⟩ = some (.bool sa) ∧ w'.cell? ⟨b_a, 1, none⟩ = some (.slice Aa ma ka)) ∧ (w'.cell? ⟨b_b, 0, none⟩ = some (.bool sb) ∧ w'.cell? ⟨b_b, 1, none⟩ = some (.slice Ab mb kb)) ∧ (w'.cell? ⟨b_c, 0, none⟩ = some (.bool sc) ∧ w'.cell? ⟨b_c, 1, none⟩ = some (.slice Ac mc kc))) ∧ Below V2.heap.size V2 w') w' := fun w' h => ⟨⟨⟨(p_a.below h).facts.2.2.1, (p_a.below h).facts.2.2.2⟩, ⟨(p_b.below h).facts.2.2.1, (p_b.below h).facts.2.2.2⟩, ⟨(p_c.below h).facts.2.2.1, (p_c.below h).facts.2.2.2⟩⟩, h⟩
  have HS0 := Lib.hid hS0
  clear hS0
  have hS : Below V2.heap.size V2 V2 := Below.refl _ _
  refine (awake_l _).mono ?_
  rintro e u1 ⟨rfl, hbk⟩
  replace hS := below_on hS hbk
  clear hbk
  obtain ⟨⟨⟨c_a0, c_a1⟩, ⟨c_b0, c_b1⟩, ⟨c_c0, c_c1⟩⟩, _⟩ := HS0.out _ hS
  go_wp2_with fail
  refine (add_i (h_a.below hS) (h_b.below hS) (by omega)).mono ?_
  rintro e u2 ⟨vv, rfl, hv, hbk⟩
  obtain ⟨dab, Aab, mab, kab, rfl, HD_ab, hg_ab⟩ := hv.form
  clear hv
  replace hS := below_on hS hbk
  clear c_a0 c_a1 c_b0 c_b1 c_c0 c_c1
  clear hbk
  go_upto_region 3 with (fail)
  obtain ⟨W3, hWk, p_ab, hbv⟩ := var_new u2 dab Aab mab kab
  rw [← hWk]
  obtain ⟨b_ab, hbe⟩ : ∃ b, b = u2.heap.size := ⟨_, rfl⟩
  rw [← hbe] at p_ab ⊢
  replace hS := below_on hS hbv
  replace p_a := p_a.below hS
  replace h_a := h_a.below hS
  replace p_b := p_b.below hS
  replace h_b := h_b.below hS
  replace p_c := p_c.below hS
  replace h_c := h_c.below hS
  have h_ab := ICan.mk HD_ab.out (hg_ab.below hbv)
  replace hw := below_on hw hS
  clear hWk hbe hS HS0 hg_ab HD_ab hbv
  have hS0 : ∀ w', Below W3.heap.size W3 w' → (fun w' => ((w'.cell? ⟨b_a, 0, none⟩ = some (.bool sa) ∧ w'.cell? ⟨b_a, 1, none⟩ = some (.slice Aa ma ka)) ∧ (w'.cell? ⟨b_b, 0, none⟩ = some (.bool sb) ∧ w'.cell? ⟨b_b, 1, none⟩ = some (.slice Ab mb kb)) ∧ (w'.cell? ⟨b_c, 0, none⟩ = some (.bool sc) ∧ w'.cell? ⟨b_c, 1, none⟩ = some (.slice Ac mc kc)) ∧ (w'.cell? ⟨b_ab, 0, none⟩ = some (.bool dab) ∧ w'.cell? ⟨b_ab, 1, none⟩ = some (.slice Aab mab kab))) ∧ Below W3.heap.size W3 w') w' := fun w' h => ⟨⟨⟨(p_a.below h).facts.2.2.1, (p_a.below h).facts.2.2.2⟩, ⟨(p_b.below h).facts.2.2.1, (p_b.below h).facts.2.2.2⟩, ⟨(p_c.below h).facts.2.2.1, (p_c.below h).facts.2.2.2⟩, ⟨(p_ab.below h).facts.2.2.1, (p_ab.below h).facts.2.2.2⟩⟩, h⟩
  have HS0 := Lib.hid hS0
  clear hS0
  have hS : Below W3.heap.size W3 W3 := Below.refl _ _
  obtain ⟨⟨⟨c_a0, c_a1⟩, ⟨c_b0, c_b1⟩, ⟨c_c0, c_c1⟩, ⟨c_ab0, c_ab1⟩⟩, _⟩ := HS0.out _ hS
  go_wp2_with fail
  refine (add_i (h_b.below hS) (h_c.below hS) (by omega)).mono ?_
  rintro e u4 ⟨vv, rfl, hv, hbk⟩
  obtain ⟨dbc, Abc, mbc, kbc, rfl, HD_bc, hg_bc⟩ := hv.form
  clear hv
  replace hS := below_on hS hbk
  clear c_a0 c_a1 c_b0 c_b1 c_c0 c_c1 c_ab0 c_ab1
  clear hbk
  go_upto_region 4 with (fail)
  obtain ⟨W5, hWk, p_bc, hbv⟩ := var_new u4 dbc Abc mbc kbc
  rw [← hWk]
  obtain ⟨b_bc, hbe⟩ : ∃ b, b = u4.heap.size := ⟨_, rfl⟩
  rw [← hbe] at p_bc ⊢
  replace hS := below_on hS hbv
  replace p_a := p_a.below hS
  replace h_a := h_a.below hS
  replace p_b := p_b.below hS
  replace h_b := h_b.below hS
  replace p_c := p_c.below hS
  replace h_c := h_c.below hS
  replace p_ab := p_ab.below hS
  replace h_ab := h_ab.below hS
  have h_bc := ICan.mk HD_bc.out (hg_bc.below hbv)
  replace hw := below_on hw hS
  clear hWk hbe hS HS0 hg_bc HD_bc hbv
  have hS0 : ∀ w', Below W5.heap.size W5 w' → (fun w' => ((w'.cell? ⟨b_a, 0, none⟩ = some (.bool sa) ∧ w'.cell? ⟨b_a, 1, none⟩ = some (.slice Aa ma ka)) ∧ (w'.cell? ⟨b_b, 0, none⟩ = some (.bool sb) ∧ w'.cell? ⟨b_b, 1, none⟩ = some (.slice Ab mb kb)) ∧ (w'.cell? ⟨b_c, 0, none⟩ = some (.bool sc) ∧ w'.cell? ⟨b_c, 1, none⟩ = some (.slice Ac mc kc)) ∧ (w'.cell? ⟨b_ab, 0, none⟩ = some (.bool dab) ∧ w'.cell? ⟨b_ab, 1, none⟩ = some (.slice Aab mab kab)) ∧ (w'.cell? ⟨b_bc, 0, none⟩ = some (.bool dbc) ∧ w'.cell? ⟨b_bc, 1, none⟩ = some (.slice Abc mbc kbc))) ∧ Below W5.heap.size W5 w') w' := fun w' h => ⟨⟨⟨(p_a.below h).facts.2.2.1, (p_a.below h).facts.2.2.2⟩, ⟨(p_b.below h).facts.2.2.1, (p_b.below h).facts.2.2.2⟩, ⟨(p_c.below h).facts.2.2.1, (p_c.below h).facts.2.2.2⟩, ⟨(p_ab.below h).facts.2.2.1, (p_ab.below h).facts.2.2.2⟩, ⟨(p_bc.below h).facts.2.2.1, (p_bc.below h).facts.2.2.2⟩⟩, h⟩
  have HS0 := Lib.hid hS0
  clear hS0
  have hS : Below W5.heap.size W5 W5 := Below.refl _ _
  go_region_held3 (fun w' => ((w'.cell? ⟨b_a, 0, none⟩ = some (.bool sa) ∧ w'.cell? ⟨b_a, 1, none⟩ = some (.slice Aa ma ka)) ∧ (w'.cell? ⟨b_b, 0, none⟩ = some (.bool sb) ∧ w'.cell? ⟨b_b, 1, none⟩ = some (.slice Ab mb kb)) ∧ (w'.cell? ⟨b_c, 0, none⟩ = some (.bool sc) ∧ w'.cell? ⟨b_c, 1, none⟩ = some (.slice Ac mc kc)) ∧ (w'.cell? ⟨b_ab, 0, none⟩ = some (.bool dab) ∧ w'.cell? ⟨b_ab, 1, none⟩ = some (.slice Aab mab kab)) ∧ (w'.cell? ⟨b_bc, 0, none⟩ = some (.bool dbc) ∧ w'.cell? ⟨b_bc, 1, none⟩ = some (.slice Abc mbc kbc))) ∧ Below W5.heap.size W5 w')
    (first | assumption | exact HS0.out _ (by assumption) | exact HS0.out _ (Below.drew (by assumption)) | exact HS0.out _ (below_on (s_below (by assumption)) (below_alloc1 _ _)) | exact HS0.out _ (below_on (by assumption) (below_alloc1 _ _)))
    (first
      | (go_at_call 24; have _q := mk1; clear _q; refine (cmp_i h_t1.iv h_t2.iv (by omega)).mono ?_; rintro e wn ⟨rfl, hb⟩; have hS2 := below_on (s_below (by assumption)) hb; (try clear hS); have hS := hS2; clear hS2; rw [icmp_of (Int.add_assoc _ _ _)]; clear hb; have mk2 : True := trivial)
      | (go_at_call 23; have _q := mk0; clear _q; refine (add_i (h_a.below (s_below (by assumption))) (h_bc.below (s_below (by assumption))).iv (by omega)).mono ?_; rintro e wn ⟨t2, rfl, h_t2, hb⟩; have hS2 := below_on (s_below (by assumption)) hb; (try clear hS); have hS := hS2; clear hS2; replace h_t1 := h_t1.below hb; clear hb; have mk1 : True := trivial)
      | (go_at_call 23; refine (add_i (h_ab.below (s_below (by assumption))).iv (h_c.below (s_below (by assumption))) (by omega)).mono ?_; rintro e wn ⟨t1, rfl, h_t1, hb⟩; have hS2 := below_on (s_below (by assumption)) hb; (try clear hS); have hS := hS2; clear hS2; clear hb; have mk0 : True := trivial))
  clear mk0 mk1 mk2
  go_upto_region 5 with (fail)
  clear h_t1 h_t2
  go_region_held3 (fun w' => ((w'.cell? ⟨b_a, 0, none⟩ = some (.bool sa) ∧ w'.cell? ⟨b_a, 1, none⟩ = some (.slice Aa ma ka)) ∧ (w'.cell? ⟨b_b, 0, none⟩ = some (.bool sb) ∧ w'.cell? ⟨b_b, 1, none⟩ = some (.slice Ab mb kb)) ∧ (w'.cell? ⟨b_c, 0, none⟩ = some (.bool sc) ∧ w'.cell? ⟨b_c, 1, none⟩ = some (.slice Ac mc kc)) ∧ (w'.cell? ⟨b_ab, 0, none⟩ = some (.bool dab) ∧ w'.cell? ⟨b_ab, 1, none⟩ = some (.slice Aab mab kab)) ∧ (w'.cell? ⟨b_bc, 0, none⟩ = some (.bool dbc) ∧ w'.cell? ⟨b_bc, 1, none⟩ = some (.slice Abc mbc kbc))) ∧ Below W5.heap.size W5 w')
    (first | assumption | exact HS0.out _ (by assumption) | exact HS0.out _ (Below.drew (by assumption)) | exact HS0.out _ (below_on (s_below (by assumption)) (below_alloc1 _ _)) | exact HS0.out _ (below_on (by assumption) (below_alloc1 _ _)))
    (first
      | (go_at_call 24; have _q := mk1; clear _q; refine (cmp_i h_t1.iv h_t2.iv (by omega)).mono ?_; rintro e wn ⟨rfl, hb⟩; have hS2 := below_on (s_below (by assumption)) hb; (try clear hS); have hS := hS2; clear hS2; rw [icmp_of (Int.mul_comm _ _)]; clear hb; have mk2 : True := trivial)
      | (go_at_call 25; have _q := mk0; clear _q; refine (mul_i (h_b.below (s_below (by assumption))) (h_a.below (s_below (by assumption))) (by omega)).mono ?_; rintro e wn ⟨t2, rfl, h_t2, hb⟩; have hS2 := below_on (s_below (by assumption)) hb; (try clear hS); have hS := hS2; clear hS2; replace h_t1 := h_t1.below hb; clear hb; have mk1 : True := trivial)
      | (go_at_call 25; refine (mul_i (h_a.below (s_below (by assumption))) (h_b.below (s_below (by assumption))) (by omega)).mono ?_; rintro e wn ⟨t1, rfl, h_t1, hb⟩; have hS2 := below_on (s_below (by assumption)) hb; (try clear hS); have hS := hS2; clear hS2; clear hb; have mk0 : True := trivial))
  clear mk0 mk1 mk2
  go_upto_region 6 with (fail)
  clear h_t1 h_t2
  go_region_held3 (fun w' => ((w'.cell? ⟨b_a, 0, none⟩ = some (.bool sa) ∧ w'.cell? ⟨b_a, 1, none⟩ = some (.slice Aa ma ka)) ∧ (w'.cell? ⟨b_b, 0, none⟩ = some (.bool sb) ∧ w'.cell? ⟨b_b, 1, none⟩ = some (.slice Ab mb kb)) ∧ (w'.cell? ⟨b_c, 0, none⟩ = some (.bool sc) ∧ w'.cell? ⟨b_c, 1, none⟩ = some (.slice Ac mc kc)) ∧ (w'.cell? ⟨b_ab, 0, none⟩ = some (.bool dab) ∧ w'.cell? ⟨b_ab, 1, none⟩ = some (.slice Aab mab kab)) ∧ (w'.cell? ⟨b_bc, 0, none⟩ = some (.bool dbc) ∧ w'.cell? ⟨b_bc, 1, none⟩ = some (.slice Abc mbc kbc))) ∧ Below W5.heap.size W5 w')
    (first | assumption | exact HS0.out _ (by assumption) | exact HS0.out _ (Below.drew (by assumption)) | exact HS0.out _ (below_on (s_below (by assumption)) (below_alloc1 _ _)) | exact HS0.out _ (below_on (by assumption) (below_alloc1 _ _)))
    (first
      | (go_at_call 24; have _q := mk3; clear _q; refine (cmp_i h_t2.iv h_t4.iv (by omega)).mono ?_; rintro e wn ⟨rfl, hb⟩; have hS2 := below_on (s_below (by assumption)) hb; (try clear hS); have hS := hS2; clear hS2; rw [icmp_of (Int.mul_assoc _ _ _)]; clear hb; have mk4 : True := trivial)
      | (go_at_call 25; have _q := mk2; clear _q; refine (mul_i (h_a.below (s_below (by assumption))) h_t3.iv (by omega)).mono ?_; rintro e wn ⟨t4, rfl, h_t4, hb⟩; have hS2 := below_on (s_below (by assumption)) hb; (try clear hS); have hS := hS2; clear hS2; replace h_t2 := h_t2.below hb; clear hb; have mk3 : True := trivial)
      | (go_at_call 25; have _q := mk1; clear _q; refine (mul_i (h_b.below (s_below (by assumption))) (h_c.below (s_below (by assumption))) (by omega)).mono ?_; rintro e wn ⟨t3, rfl, h_t3, hb⟩; have hS2 := below_on (s_below (by assumption)) hb; (try clear hS); have hS := hS2; clear hS2; replace h_t2 := h_t2.below hb; clear hb; have mk2 : True := trivial)
      | (go_at_call 25; have _q := mk0; clear _q; refine (mul_i h_t1.iv (h_c.below (s_below (by assumption))) (by omega)).mono ?_; rintro e wn ⟨t2, rfl, h_t2, hb⟩; have hS2 := below_on (s_below (by assumption)) hb; (try clear hS); have hS := hS2; clear hS2; clear hb; have mk1 : True := trivial)
      | (go_at_call 25; refine (mul_i (h_a.below (s_below (by assumption))) (h_b.below (s_below (by assumption))) (by omega)).mono ?_; rintro e wn ⟨t1, rfl, h_t1, hb⟩; have hS2 := below_on (s_below (by assumption)) hb; (try clear hS); have hS := hS2; clear hS2; clear hb; have mk0 : True := trivial))
  clear mk0 mk1 mk2 mk3 mk4
  go_upto_region 7 with (fail)
  clear h_t1 h_t2 h_t3 h_t4
  go_region_held3 (fun w' => ((w'.cell? ⟨b_a, 0, none⟩ = some (.bool sa) ∧ w'.cell? ⟨b_a, 1, none⟩ = some (.slice Aa ma ka)) ∧ (w'.cell? ⟨b_b, 0, none⟩ = some (.bool sb) ∧ w'.cell? ⟨b_b, 1, none⟩ = some (.slice Ab mb kb)) ∧ (w'.cell? ⟨b_c, 0, none⟩ = some (.bool sc) ∧ w'.cell? ⟨b_c, 1, none⟩ = some (.slice Ac mc kc)) ∧ (w'.cell? ⟨b_ab, 0, none⟩ = some (.bool dab) ∧ w'.cell? ⟨b_ab, 1, none⟩ = some (.slice Aab mab kab)) ∧ (w'.cell? ⟨b_bc, 0, none⟩ = some (.bool dbc) ∧ w'.cell? ⟨b_bc, 1, none⟩ = some (.slice Abc mbc kbc))) ∧ Below W5.heap.size W5 w')
    (first | assumption | exact HS0.out _ (by assumption) | exact HS0.out _ (Below.drew (by assumption)) | exact HS0.out _ (below_on (s_below (by assumption)) (below_alloc1 _ _)) | exact HS0.out _ (below_on (by assumption) (below_alloc1 _ _)))
    (first
      | (go_at_call 24; have _q := mk3; clear _q; refine (cmp_i h_t1.iv h_t4.iv (by omega)).mono ?_; rintro e wn ⟨rfl, hb⟩; have hS2 := below_on (s_below (by assumption)) hb; (try clear hS); have hS := hS2; clear hS2; rw [icmp_of (Int.mul_add _ _ _)]; clear hb; have mk4 : True := trivial)
      | (go_at_call 23; have _q := mk2; clear _q; refine (add_i h_t2.iv h_t3.iv (by omega)).mono ?_; rintro e wn ⟨t4, rfl, h_t4, hb⟩; have hS2 := below_on (s_below (by assumption)) hb; (try clear hS); have hS := hS2; clear hS2; replace h_t1 := h_t1.below hb; clear hb; have mk3 : True := trivial)
      | (go_at_call 25; have _q := mk1; clear _q; refine (mul_i (h_a.below (s_below (by assumption))) (h_c.below (s_below (by assumption))) (by omega)).mono ?_; rintro e wn ⟨t3, rfl, h_t3, hb⟩; have hS2 := below_on (s_below (by assumption)) hb; (try clear hS); have hS := hS2; clear hS2; replace h_t1 := h_t1.below hb; replace h_t2 := h_t2.below hb; clear hb; have mk2 : True := trivial)
      | (go_at_call 25; have _q := mk0; clear _q; refine (mul_i (h_a.below (s_below (by assumption))) (h_b.below (s_below (by assumption))) (by omega)).mono ?_; rintro e wn ⟨t2, rfl, h_t2, hb⟩; have hS2 := below_on (s_below (by assumption)) hb; (try clear hS); have hS := hS2; clear hS2; replace h_t1 := h_t1.below hb; clear hb; have mk1 : True := trivial)
      | (go_at_call 25; refine (mul_i (h_a.below (s_below (by assumption))) (h_bc.below (s_below (by assumption))).iv (by omega)).mono ?_; rintro e wn ⟨t1, rfl, h_t1, hb⟩; have hS2 := below_on (s_below (by assumption)) hb; (try clear hS); have hS := hS2; clear hS2; clear hb; have mk0 : True := trivial))
  clear mk0 mk1 mk2 mk3 mk4
  go_upto_region 8 with (fail)
  clear h_t1 h_t2 h_t3 h_t4
  go_region_held3 (fun w' => ((w'.cell? ⟨b_a, 0, none⟩ = some (.bool sa) ∧ w'.cell? ⟨b_a, 1, none⟩ = some (.slice Aa ma ka)) ∧ (w'.cell? ⟨b_b, 0, none⟩ = some (.bool sb) ∧ w'.cell? ⟨b_b, 1, none⟩ = some (.slice Ab mb kb)) ∧ (w'.cell? ⟨b_c, 0, none⟩ = some (.bool sc) ∧ w'.cell? ⟨b_c, 1, none⟩ = some (.slice Ac mc kc)) ∧ (w'.cell? ⟨b_ab, 0, none⟩ = some (.bool dab) ∧ w'.cell? ⟨b_ab, 1, none⟩ = some (.slice Aab mab kab)) ∧ (w'.cell? ⟨b_bc, 0, none⟩ = some (.bool dbc) ∧ w'.cell? ⟨b_bc, 1, none⟩ = some (.slice Abc mbc kbc))) ∧ Below W5.heap.size W5 w')
    (first | assumption | exact HS0.out _ (by assumption) | exact HS0.out _ (Below.drew (by assumption)) | exact HS0.out _ (below_on (s_below (by assumption)) (below_alloc1 _ _)) | exact HS0.out _ (below_on (by assumption) (below_alloc1 _ _)))
    (first
      | (go_at_call 24; have _q := mk0; clear _q; refine (cmp_i h_t1.iv (h_a.below (s_below (by assumption))) (by omega)).mono ?_; rintro e wn ⟨rfl, hb⟩; have hS2 := below_on (s_below (by assumption)) hb; (try clear hS); have hS := hS2; clear hS2; rw [icmp_of (Int.add_sub_cancel _ _)]; clear hb; have mk1 : True := trivial)
      | (go_at_call 26; refine (sub_i (h_ab.below (s_below (by assumption))).iv (h_b.below (s_below (by assumption))) (by omega)).mono ?_; rintro e wn ⟨t1, rfl, h_t1, hb⟩; have hS2 := below_on (s_below (by assumption)) hb; (try clear hS); have hS := hS2; clear hS2; clear hb; have mk0 : True := trivial))
  clear mk0 mk1
  go_upto_region 9 with (fail)
  clear h_t1
  obtain ⟨pq, hpq⟩ : ∃ p, p = icmp na nb := ⟨_, rfl⟩
  have hpw : IntKind.i64.wrap (pq - pq) = 0 := by rw [Int.sub_self]; rfl
  have HPQ := Lib.hid hpq
  clear hpq
  go_region_held3 (fun w' => ((w'.cell? ⟨b_a, 0, none⟩ = some (.bool sa) ∧ w'.cell? ⟨b_a, 1, none⟩ = some (.slice Aa ma ka)) ∧ (w'.cell? ⟨b_b, 0, none⟩ = some (.bool sb) ∧ w'.cell? ⟨b_b, 1, none⟩ = some (.slice Ab mb kb)) ∧ (w'.cell? ⟨b_c, 0, none⟩ = some (.bool sc) ∧ w'.cell? ⟨b_c, 1, none⟩ = some (.slice Ac mc kc)) ∧ (w'.cell? ⟨b_ab, 0, none⟩ = some (.bool dab) ∧ w'.cell? ⟨b_ab, 1, none⟩ = some (.slice Aab mab kab)) ∧ (w'.cell? ⟨b_bc, 0, none⟩ = some (.bool dbc) ∧ w'.cell? ⟨b_bc, 1, none⟩ = some (.slice Abc mbc kbc))) ∧ Below W5.heap.size W5 w')
    (first | assumption | exact HS0.out _ (by assumption) | exact HS0.out _ (Below.drew (by assumption)) | exact HS0.out _ (below_on (s_below (by assumption)) (below_alloc1 _ _)) | exact HS0.out _ (below_on (by assumption) (below_alloc1 _ _)))
    (first
      | (go_at_call 24; have _q := mk1; clear _q; refine (cmp_i (h_a.below (s_below (by assumption))) (h_b.below (s_below (by assumption))) (by omega)).mono ?_; rintro e wn ⟨rfl, hb⟩; have hS2 := below_on (s_below (by assumption)) hb; (try clear hS); have hS := hS2; clear hS2; rw [← HPQ.out]; clear hb; have mk2 : True := trivial)
      | (go_at_call 27; have _q := mk0; clear _q; refine (sign_i h_t1.iv (by omega)).mono ?_; rintro e wn ⟨rfl, hb⟩; have hS2 := below_on (s_below (by assumption)) hb; (try clear hS); have hS := hS2; clear hS2; rw [isgn_sub, ← HPQ.out]; clear hb; have mk1 : True := trivial)
      | (go_at_call 26; refine (sub_i (h_a.below (s_below (by assumption))) (h_b.below (s_below (by assumption))) (by omega)).mono ?_; rintro e wn ⟨t1, rfl, h_t1, hb⟩; have hS2 := below_on (s_below (by assumption)) hb; (try clear hS); have hS := hS2; clear hS2; clear hb; have mk0 : True := trivial))
  clear mk0 mk1 mk2
  go_upto_region 10 with (fail)
  clear h_t1
  go_region_held3 (fun w' => ((w'.cell? ⟨b_a, 0, none⟩ = some (.bool sa) ∧ w'.cell? ⟨b_a, 1, none⟩ = some (.slice Aa ma ka)) ∧ (w'.cell? ⟨b_b, 0, none⟩ = some (.bool sb) ∧ w'.cell? ⟨b_b, 1, none⟩ = some (.slice Ab mb kb)) ∧ (w'.cell? ⟨b_c, 0, none⟩ = some (.bool sc) ∧ w'.cell? ⟨b_c, 1, none⟩ = some (.slice Ac mc kc)) ∧ (w'.cell? ⟨b_ab, 0, none⟩ = some (.bool dab) ∧ w'.cell? ⟨b_ab, 1, none⟩ = some (.slice Aab mab kab)) ∧ (w'.cell? ⟨b_bc, 0, none⟩ = some (.bool dbc) ∧ w'.cell? ⟨b_bc, 1, none⟩ = some (.slice Abc mbc kbc))) ∧ Below W5.heap.size W5 w')
    (first | assumption | exact HS0.out _ (by assumption) | exact HS0.out _ (Below.drew (by assumption)) | exact HS0.out _ (below_on (s_below (by assumption)) (below_alloc1 _ _)) | exact HS0.out _ (below_on (by assumption) (below_alloc1 _ _)))
    (first
      | (go_at_call 24; have _q := mk1; clear _q; refine (cmp_i h_t2.iv (h_a.below (s_below (by assumption))) (by omega)).mono ?_; rintro e wn ⟨rfl, hb⟩; have hS2 := below_on (s_below (by assumption)) hb; (try clear hS); have hS := hS2; clear hS2; rw [icmp_of (Int.neg_neg _)]; clear hb; have mk2 : True := trivial)
      | (go_at_call 28; have _q := mk0; clear _q; refine (neg_i h_t1.iv (by omega)).mono ?_; rintro e wn ⟨t2, rfl, h_t2, hb⟩; have hS2 := below_on (s_below (by assumption)) hb; (try clear hS); have hS := hS2; clear hS2; clear hb; have mk1 : True := trivial)
      | (go_at_call 28; refine (neg_i (h_a.below (s_below (by assumption))) (by omega)).mono ?_; rintro e wn ⟨t1, rfl, h_t1, hb⟩; have hS2 := below_on (s_below (by assumption)) hb; (try clear hS); have hS := hS2; clear hS2; clear hb; have mk0 : True := trivial))
  clear mk0 mk1 mk2
  go_wp2_with fail
  go_ret
  exact ⟨rfl, below_on hw hS⟩
end Go.Proofs.YtiidghfkdjefgaaDoor

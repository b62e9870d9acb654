/-
  The walk of riddlelaw02.ZintStands: it answers true.
-/
import Derived.Test.YtiidghfkdjefgaaDoorZAwake
import Derived.Deep.RegionHeld3
import Derived.Test.YtiidghfkdjefgaaDoorZRI64
namespace Go.Proofs.YtiidghfkdjefgaaDoor
open Go.RowKit

set_option maxRecDepth 100000 in
set_option maxHeartbeats 40000000 in
theorem walkZintStands (w : World) (a : Value) (nn : Int) (ss : Bool) (ll : List Nat) (Ka : Nat) (na : Int) (h_a : IV w a Ka na) (hKa : Ka ≤ 1048576) (hnn : -9223372036854775808 ≤ nn ∧ nn < 9223372036854775808) (r_a : IRaw w a Ka ss ll) :
    Calls Tryd.prog 8 #[a, .int .i64 nn] w fun e w' => e = .returned (.bool true) ∧ Below w.heap.size w w' := by
  obtain ⟨sa, xa, ⟨la, rfl, hma⟩, hza⟩ := h_a
  obtain ⟨Aa, ma, ka, rfl⟩ := hma.slice
  have h_a : IV w (.agg #[.bool sa, .slice Aa ma ka]) Ka na := ⟨sa, xa, ⟨_, rfl, hma⟩, hza⟩
  have hw0 : Below w.heap.size w w := Below.refl _ _
  obtain ⟨V0, hV0, p_a, hb0⟩ := var_new w sa Aa ma ka
  obtain ⟨b_a, hb_a⟩ : ∃ b, b = w.heap.size := ⟨_, rfl⟩
  rw [← hb_a] at p_a
  replace hw0 := below_on hw0 hb0
  replace h_a := h_a.below hw0
  replace r_a := r_a.below hw0
  clear hma hza
  have HB_a := Lib.hid hb_a
  have HV0 := Lib.hid hV0
  clear hb_a hV0 hb0
  have hw := hw0
  clear hw0
  go_enter Tryd.func8, Tryd.ntmps8
  go_wp2_with fail
  try simp only [World.size_alloc]
  rw [← HV0.out]
  try rw [← HB_a.out]
  clear HB_a
  clear HV0
  have hS0 : ∀ w', Below V0.heap.size V0 w' → (fun w' => ((w'.cell? ⟨b_a, 0, none⟩ = some (.bool sa) ∧ w'.cell? ⟨b_a, 1, none⟩ = some (.slice Aa ma ka))) ∧ Below V0.heap.size V0 w') w' := fun w' h => ⟨⟨(p_a.below h).facts.2.2.1, (p_a.below h).facts.2.2.2⟩, h⟩
  have HS0 := Lib.hid hS0
  clear hS0
  have hS : Below V0.heap.size V0 V0 := Below.refl _ _
  obtain ⟨π, eπ⟩ : ∃ q, q = i64v na := ⟨_, rfl⟩
  have Eπ := Lib.hid eπ
  clear eπ
  obtain ⟨χ, eχ⟩ : ∃ q, q = i64b na := ⟨_, rfl⟩
  have Eχ := Lib.hid eχ
  clear eχ
  obtain ⟨ν, eν⟩ : ∃ q, q = vld ss ll := ⟨_, rfl⟩
  have Eν := Lib.hid eν
  clear eν
  have HNN := Lib.hid hnn
  clear hnn
  refine (awake_l _).mono ?_
  rintro e u1 ⟨rfl, hbk⟩
  replace hS := below_on hS hbk
  clear hbk
  obtain ⟨⟨c_a0, c_a1⟩, _⟩ := HS0.out _ hS
  go_wp2_with fail
  refine (of_i _ nn HNN.out).mono ?_
  rintro e u2 ⟨vv, rfl, hv, hbk⟩
  obtain ⟨dx, Ax, mx, kx, rfl, HD_x, hg_x⟩ := hv.form
  clear hv
  replace hS := below_on hS hbk
  clear c_a0 c_a1
  clear hbk
  go_upto_region 3 with (fail)
  obtain ⟨W3, hWk, p_x, hbv⟩ := var_new u2 dx Ax mx kx
  rw [← hWk]
  obtain ⟨b_x, hbe⟩ : ∃ b, b = u2.heap.size := ⟨_, rfl⟩
  rw [← hbe] at p_x ⊢
  replace hS := below_on hS hbv
  replace p_a := p_a.below hS
  replace h_a := h_a.below hS
  replace r_a := r_a.below hS
  have h_x := ICan.mk HD_x.out (hg_x.below hbv)
  replace hw := below_on hw hS
  clear hWk hbe hS HS0 hg_x HD_x hbv
  have hS0 : ∀ w', Below W3.heap.size W3 w' → (fun w' => ((w'.cell? ⟨b_a, 0, none⟩ = some (.bool sa) ∧ w'.cell? ⟨b_a, 1, none⟩ = some (.slice Aa ma ka)) ∧ (w'.cell? ⟨b_x, 0, none⟩ = some (.bool dx) ∧ w'.cell? ⟨b_x, 1, none⟩ = some (.slice Ax mx kx))) ∧ Below W3.heap.size W3 w') w' := fun w' h => ⟨⟨⟨(p_a.below h).facts.2.2.1, (p_a.below h).facts.2.2.2⟩, ⟨(p_x.below h).facts.2.2.1, (p_x.below h).facts.2.2.2⟩⟩, h⟩
  have HS0 := Lib.hid hS0
  clear hS0
  have hS : Below W3.heap.size W3 W3 := Below.refl _ _
  obtain ⟨⟨⟨c_a0, c_a1⟩, ⟨c_x0, c_x1⟩⟩, _⟩ := HS0.out _ hS
  go_wp2_with fail
  refine (int64_i (h_x.below hS).iv (by omega)).mono ?_
  rintro e u4 ⟨rfl, hbk⟩
  rw [(i64_in HNN.out).2, (i64_in HNN.out).1]
  replace hS := below_on hS hbk
  clear c_a0 c_a1 c_x0 c_x1
  clear hbk
  obtain ⟨⟨⟨c_a0, c_a1⟩, ⟨c_x0, c_x1⟩⟩, _⟩ := HS0.out _ hS
  go_wp2_with fail
  refine (norm_i (h_a.below hS) (by omega)).mono ?_
  rintro e u5 ⟨vv, rfl, hv, hbk⟩
  obtain ⟨db, Ab, mb, kb, rfl, HD_b, hg_b⟩ := hv.form
  clear hv
  replace hS := below_on hS hbk
  clear c_a0 c_a1 c_x0 c_x1
  clear hbk
  go_upto_region 5 with (fail)
  obtain ⟨W6, hWk, p_b, hbv⟩ := var_new u5 db Ab mb kb
  rw [← hWk]
  obtain ⟨b_b, hbe⟩ : ∃ b, b = u5.heap.size := ⟨_, rfl⟩
  rw [← hbe] at p_b ⊢
  replace hS := below_on hS hbv
  replace p_a := p_a.below hS
  replace h_a := h_a.below hS
  replace p_x := p_x.below hS
  replace h_x := h_x.below hS
  replace r_a := r_a.below hS
  have h_b := ICan.mk HD_b.out (hg_b.below hbv)
  replace hw := below_on hw hS
  clear hWk hbe hS HS0 hg_b HD_b hbv
  have hS0 : ∀ w', Below W6.heap.size W6 w' → (fun w' => ((w'.cell? ⟨b_a, 0, none⟩ = some (.bool sa) ∧ w'.cell? ⟨b_a, 1, none⟩ = some (.slice Aa ma ka)) ∧ (w'.cell? ⟨b_x, 0, none⟩ = some (.bool dx) ∧ w'.cell? ⟨b_x, 1, none⟩ = some (.slice Ax mx kx)) ∧ (w'.cell? ⟨b_b, 0, none⟩ = some (.bool db) ∧ w'.cell? ⟨b_b, 1, none⟩ = some (.slice Ab mb kb))) ∧ Below W6.heap.size W6 w') w' := fun w' h => ⟨⟨⟨(p_a.below h).facts.2.2.1, (p_a.below h).facts.2.2.2⟩, ⟨(p_x.below h).facts.2.2.1, (p_x.below h).facts.2.2.2⟩, ⟨(p_b.below h).facts.2.2.1, (p_b.below h).facts.2.2.2⟩⟩, h⟩
  have HS0 := Lib.hid hS0
  clear hS0
  have hS : Below W6.heap.size W6 W6 := Below.refl _ _
  obtain ⟨⟨⟨c_a0, c_a1⟩, ⟨c_x0, c_x1⟩, ⟨c_b0, c_b1⟩⟩, _⟩ := HS0.out _ hS
  go_wp2_with fail
  refine (valid_i (r_a.below hS) (by omega)).mono ?_
  rintro e u7 ⟨rfl, hbk⟩
  rw [← Eν.out]
  replace hS := below_on hS hbk
  clear c_a0 c_a1 c_x0 c_x1 c_b0 c_b1
  clear hbk
  obtain ⟨⟨⟨c_a0, c_a1⟩, ⟨c_x0, c_x1⟩, ⟨c_b0, c_b1⟩⟩, _⟩ := HS0.out _ hS
  go_wp2_with fail
  refine (int64_i (h_a.below hS) (by omega)).mono ?_
  rintro e u8 ⟨rfl, hbk⟩
  rw [← Eπ.out, ← Eχ.out]
  replace hS := below_on hS hbk
  clear c_a0 c_a1 c_x0 c_x1 c_b0 c_b1
  clear hbk
  obtain ⟨⟨⟨c_a0, c_a1⟩, ⟨c_x0, c_x1⟩, ⟨c_b0, c_b1⟩⟩, _⟩ := HS0.out _ hS
  go_wp2_with fail
  refine (int64_r (h_a.below hS) (by omega)).mono ?_
  rintro e u9 ⟨rfl, hbk⟩
  rw [← Eπ.out, ← Eχ.out]
  replace hS := below_on hS hbk
  clear c_a0 c_a1 c_x0 c_x1 c_b0 c_b1
  clear hbk
  go_upto_region 8 with (fail)
  go_region_held3 (fun w' => ((w'.cell? ⟨b_a, 0, none⟩ = some (.bool sa) ∧ w'.cell? ⟨b_a, 1, none⟩ = some (.slice Aa ma ka)) ∧ (w'.cell? ⟨b_x, 0, none⟩ = some (.bool dx) ∧ w'.cell? ⟨b_x, 1, none⟩ = some (.slice Ax mx kx)) ∧ (w'.cell? ⟨b_b, 0, none⟩ = some (.bool db) ∧ w'.cell? ⟨b_b, 1, none⟩ = some (.slice Ab mb kb))) ∧ Below W6.heap.size W6 w')
    (first | assumption | exact HS0.out _ (by assumption) | exact HS0.out _ (Below.drew (by assumption)) | exact HS0.out _ (below_on (s_below (by assumption)) (below_alloc1 _ _)) | exact HS0.out _ (below_on (by assumption) (below_alloc1 _ _)))
    (first
      | (go_at_call 43; have _q := mk3; clear _q; refine (valid_r (r_a.below (s_below (by assumption))) (by omega)).mono ?_; rintro e wn ⟨rfl, hb⟩; have hS2 := below_on (s_below (by assumption)) hb; (try clear hS); have hS := hS2; clear hS2; rw [← Eν.out]; clear hb; have mk4 : True := trivial)
      | (go_at_call 15; have _q := mk2; clear _q; refine (is_l (h_b.below (s_below (by assumption))) h_t2.iv (by omega) (rfl)).mono ?_; rintro e wn ⟨rfl, hb⟩; have hS2 := below_on (s_below (by assumption)) hb; (try clear hS); have hS := hS2; clear hS2; clear hb; have mk3 : True := trivial)
      | (go_at_call 22; have _q := mk1; clear _q; refine (norm_r (h_a.below (s_below (by assumption))) (by omega)).mono ?_; rintro e wn ⟨t2, rfl, h_t2, hb⟩; have hS2 := below_on (s_below (by assumption)) hb; (try clear hS); have hS := hS2; clear hS2; clear hb; have mk2 : True := trivial)
      | (go_at_call 15; have _q := mk0; clear _q; refine (is_l (h_x.below (s_below (by assumption))) h_t1.iv (by omega) (rfl)).mono ?_; rintro e wn ⟨rfl, hb⟩; have hS2 := below_on (s_below (by assumption)) hb; (try clear hS); have hS := hS2; clear hS2; clear hb; have mk1 : True := trivial)
      | (go_at_call 42; refine (of_r _ nn HNN.out).mono ?_; rintro e wn ⟨t1, rfl, h_t1, hb⟩; have hS2 := below_on (s_below (by assumption)) hb; (try clear hS); have hS := hS2; clear hS2; clear hb; have mk0 : True := trivial))
  all_goals
    go_wp2_with fail
    go_ret
    exact ⟨rfl, below_on hw hS⟩
end Go.Proofs.YtiidghfkdjefgaaDoor

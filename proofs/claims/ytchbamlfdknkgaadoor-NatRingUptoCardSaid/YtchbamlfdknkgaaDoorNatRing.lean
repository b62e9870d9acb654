/-
  The walk of riddlelaw01.NatRing: it answers true.
-/
import Derived.Test.YtchbamlfdknkgaaDoorKnown
namespace Go.Proofs.YtchbamlfdknkgaaDoor
open Go.RowKit

set_option maxRecDepth 100000 in
set_option maxHeartbeats 2000000 in
theorem walkNatRing (w : World) (a b c : Value) (Ka na Kb nb Kc nc : Nat) (h_a : Val w a Ka na) (h_b : Val w b Kb nb) (h_c : Val w c Kc nc) (hKa : Ka ≤ 1048576) (hKb : Kb ≤ 1048576) (hKc : Kc ≤ 1048576) :
    Calls Tryd.prog 16 #[a, b, c] w fun e w' => e = .returned (.bool true) ∧ Below w.heap.size w w' := by
  have hw : Below w.heap.size w w := Below.refl _ _
  go_enter Tryd.func16, Tryd.ntmps16
  go_wp2_with fail
  refine (add_v h_a h_b (by omega)).mono ?_
  rintro e w1 ⟨s, rfl, hn, hb1⟩
  replace h_a := h_a.below hb1
  replace h_b := h_b.below hb1
  replace h_c := h_c.below hb1
  replace hw := hw.trans (hb1.mono hw.size)
  have h_s := hn.bar
  clear hn
  go_wp2_with fail
  refine (sub_v h_s.val h_b (by omega) (by omega) (Nat.le_add_left _ _)).mono ?_
  rintro e w2 ⟨d, rfl, hn, hb2⟩
  replace h_a := h_a.below hb2
  replace h_b := h_b.below hb2
  replace h_c := h_c.below hb2
  replace h_s := h_s.below hb2
  replace hw := hw.trans (hb2.mono hw.size)
  have h_d := hn.bar
  clear hn
  go_wp2_with fail
  refine (add_v h_b h_a (by omega)).mono ?_
  rintro e w3 ⟨t1, rfl, hn, hb3⟩
  replace h_a := h_a.below hb3
  replace h_b := h_b.below hb3
  replace h_c := h_c.below hb3
  replace h_s := h_s.below hb3
  replace h_d := h_d.below hb3
  replace hw := hw.trans (hb3.mono hw.size)
  have h_t1 := hn.bar
  clear hn
  go_wp2_with fail
  refine (same_v h_s h_t1 (by omega) (Nat.add_comm _ _)).mono ?_
  rintro e w4 ⟨rfl, hb4⟩
  replace h_a := h_a.below hb4
  replace h_b := h_b.below hb4
  replace h_c := h_c.below hb4
  replace h_s := h_s.below hb4
  replace h_d := h_d.below hb4
  clear h_t1
  replace hw := hw.trans (hb4.mono hw.size)
  go_wp2_with fail
  refine (add_v h_s.val h_c (by omega)).mono ?_
  rintro e w5 ⟨t2, rfl, hn, hb5⟩
  replace h_a := h_a.below hb5
  replace h_b := h_b.below hb5
  replace h_c := h_c.below hb5
  replace h_s := h_s.below hb5
  replace h_d := h_d.below hb5
  replace hw := hw.trans (hb5.mono hw.size)
  have h_t2 := hn.bar
  clear hn
  go_wp2_with fail
  refine (add_v h_b h_c (by omega)).mono ?_
  rintro e w6 ⟨t3, rfl, hn, hb6⟩
  replace h_a := h_a.below hb6
  replace h_b := h_b.below hb6
  replace h_c := h_c.below hb6
  replace h_s := h_s.below hb6
  replace h_d := h_d.below hb6
  replace h_t2 := h_t2.below hb6
  replace hw := hw.trans (hb6.mono hw.size)
  have h_t3 := hn.bar
  clear hn
  go_wp2_with fail
  refine (add_v h_a h_t3.val (by omega)).mono ?_
  rintro e w7 ⟨t4, rfl, hn, hb7⟩
  replace h_a := h_a.below hb7
  replace h_b := h_b.below hb7
  replace h_c := h_c.below hb7
  replace h_s := h_s.below hb7
  replace h_d := h_d.below hb7
  replace h_t2 := h_t2.below hb7
  replace h_t3 := h_t3.below hb7
  replace hw := hw.trans (hb7.mono hw.size)
  have h_t4 := hn.bar
  clear hn
  go_wp2_with fail
  refine (same_v h_t2 h_t4 (by omega) (Nat.add_assoc _ _ _)).mono ?_
  rintro e w8 ⟨rfl, hb8⟩
  replace h_a := h_a.below hb8
  replace h_b := h_b.below hb8
  replace h_c := h_c.below hb8
  replace h_s := h_s.below hb8
  replace h_d := h_d.below hb8
  clear h_t2
  clear h_t3
  clear h_t4
  replace hw := hw.trans (hb8.mono hw.size)
  go_wp2_with fail
  refine (mul_v h_a h_b (by omega)).mono ?_
  rintro e w9 ⟨p, rfl, hn, hb9⟩
  replace h_a := h_a.below hb9
  replace h_b := h_b.below hb9
  replace h_c := h_c.below hb9
  replace h_s := h_s.below hb9
  replace h_d := h_d.below hb9
  replace hw := hw.trans (hb9.mono hw.size)
  have h_p := hn.bar
  clear hn
  go_wp2_with fail
  refine (mul_v h_b h_a (by omega)).mono ?_
  rintro e w10 ⟨m1, rfl, hn, hb10⟩
  replace h_a := h_a.below hb10
  replace h_b := h_b.below hb10
  replace h_c := h_c.below hb10
  replace h_s := h_s.below hb10
  replace h_d := h_d.below hb10
  replace h_p := h_p.below hb10
  replace hw := hw.trans (hb10.mono hw.size)
  have h_m1 := hn.bar
  clear hn
  go_wp2_with fail
  refine (same_v h_p h_m1 (by omega) (Nat.mul_comm _ _)).mono ?_
  rintro e w11 ⟨rfl, hb11⟩
  replace h_a := h_a.below hb11
  replace h_b := h_b.below hb11
  replace h_c := h_c.below hb11
  replace h_s := h_s.below hb11
  replace h_d := h_d.below hb11
  replace h_p := h_p.below hb11
  clear h_m1
  replace hw := hw.trans (hb11.mono hw.size)
  go_wp2_with fail
  refine (mul_v h_p.val h_c (by omega)).mono ?_
  rintro e w12 ⟨m2, rfl, hn, hb12⟩
  replace h_a := h_a.below hb12
  replace h_b := h_b.below hb12
  replace h_c := h_c.below hb12
  replace h_s := h_s.below hb12
  replace h_d := h_d.below hb12
  replace h_p := h_p.below hb12
  replace hw := hw.trans (hb12.mono hw.size)
  have h_m2 := hn.bar
  clear hn
  go_wp2_with fail
  refine (mul_v h_b h_c (by omega)).mono ?_
  rintro e w13 ⟨m3, rfl, hn, hb13⟩
  replace h_a := h_a.below hb13
  replace h_b := h_b.below hb13
  replace h_c := h_c.below hb13
  replace h_s := h_s.below hb13
  replace h_d := h_d.below hb13
  replace h_p := h_p.below hb13
  replace h_m2 := h_m2.below hb13
  replace hw := hw.trans (hb13.mono hw.size)
  have h_m3 := hn.bar
  clear hn
  go_wp2_with fail
  refine (mul_v h_a h_m3.val (by omega)).mono ?_
  rintro e w14 ⟨m4, rfl, hn, hb14⟩
  replace h_a := h_a.below hb14
  replace h_b := h_b.below hb14
  replace h_c := h_c.below hb14
  replace h_s := h_s.below hb14
  replace h_d := h_d.below hb14
  replace h_p := h_p.below hb14
  replace h_m2 := h_m2.below hb14
  replace h_m3 := h_m3.below hb14
  replace hw := hw.trans (hb14.mono hw.size)
  have h_m4 := hn.bar
  clear hn
  go_wp2_with fail
  refine (same_v h_m2 h_m4 (by omega) (Nat.mul_assoc _ _ _)).mono ?_
  rintro e w15 ⟨rfl, hb15⟩
  replace h_a := h_a.below hb15
  replace h_b := h_b.below hb15
  replace h_c := h_c.below hb15
  replace h_s := h_s.below hb15
  replace h_d := h_d.below hb15
  clear h_p
  clear h_m2
  clear h_m3
  clear h_m4
  replace hw := hw.trans (hb15.mono hw.size)
  go_wp2_with fail
  refine (mul_v h_s.val h_c (by omega)).mono ?_
  rintro e w16 ⟨r1, rfl, hn, hb16⟩
  replace h_a := h_a.below hb16
  replace h_b := h_b.below hb16
  replace h_c := h_c.below hb16
  replace h_s := h_s.below hb16
  replace h_d := h_d.below hb16
  replace hw := hw.trans (hb16.mono hw.size)
  have h_r1 := hn.bar
  clear hn
  go_wp2_with fail
  refine (mul_v h_a h_c (by omega)).mono ?_
  rintro e w17 ⟨r2, rfl, hn, hb17⟩
  replace h_a := h_a.below hb17
  replace h_b := h_b.below hb17
  replace h_c := h_c.below hb17
  replace h_s := h_s.below hb17
  replace h_d := h_d.below hb17
  replace h_r1 := h_r1.below hb17
  replace hw := hw.trans (hb17.mono hw.size)
  have h_r2 := hn.bar
  clear hn
  go_wp2_with fail
  refine (mul_v h_b h_c (by omega)).mono ?_
  rintro e w18 ⟨r3, rfl, hn, hb18⟩
  replace h_a := h_a.below hb18
  replace h_b := h_b.below hb18
  replace h_c := h_c.below hb18
  replace h_s := h_s.below hb18
  replace h_d := h_d.below hb18
  replace h_r1 := h_r1.below hb18
  replace h_r2 := h_r2.below hb18
  replace hw := hw.trans (hb18.mono hw.size)
  have h_r3 := hn.bar
  clear hn
  go_wp2_with fail
  refine (add_v h_r2.val h_r3.val (by omega)).mono ?_
  rintro e w19 ⟨r4, rfl, hn, hb19⟩
  replace h_a := h_a.below hb19
  replace h_b := h_b.below hb19
  replace h_c := h_c.below hb19
  replace h_s := h_s.below hb19
  replace h_d := h_d.below hb19
  replace h_r1 := h_r1.below hb19
  replace h_r2 := h_r2.below hb19
  replace h_r3 := h_r3.below hb19
  replace hw := hw.trans (hb19.mono hw.size)
  have h_r4 := hn.bar
  clear hn
  go_wp2_with fail
  refine (same_v h_r1 h_r4 (by omega) (Nat.add_mul _ _ _)).mono ?_
  rintro e w20 ⟨rfl, hb20⟩
  replace h_a := h_a.below hb20
  clear h_b
  clear h_c
  clear h_s
  replace h_d := h_d.below hb20
  clear h_r1
  clear h_r2
  clear h_r3
  clear h_r4
  replace hw := hw.trans (hb20.mono hw.size)
  go_wp2_with fail
  refine (cmp_v h_d.val h_a (by omega) (by omega)).mono ?_
  rintro e w21 ⟨rfl, hb21⟩
  clear h_a
  clear h_d
  replace hw := hw.trans (hb21.mono hw.size)
  rw [Nat.add_sub_cancel, N.cmpN_eq]
  go_wp2_with fail
  refine (known_any _).mono ?_
  rintro e w22 ⟨rfl, hb22⟩
  replace hw := hw.trans (hb22.mono hw.size)
  go_wp2_with fail
  go_ret
  exact ⟨rfl, hw⟩
end Go.Proofs.YtchbamlfdknkgaaDoor

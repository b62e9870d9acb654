/-
  The walk of riddlelaw01.NatCommon: it answers true.
-/
import Derived.Test.YtchbamlfdknkgaaDoorKnown
namespace Go.Proofs.YtchbamlfdknkgaaDoor
open Go.RowKit

set_option maxRecDepth 100000 in
set_option maxHeartbeats 2000000 in
theorem walkNatCommon (w : World) (a b c : Value) (Ka na Kb nb Kc nc : Nat) (h_a : Val w a Ka na) (h_b : Val w b Kb nb) (h_c : Val w c Kc nc) (hKa : Ka ≤ 1048576) (hKb : Kb ≤ 1048576) (hKc : Kc ≤ 1048576) :
    Calls Tryd.prog 14 #[a, b, c] w fun e w' => e = .returned (.bool true) ∧ Below w.heap.size w w' := by
  have hw : Below w.heap.size w w := Below.refl _ _
  go_enter Tryd.func14, Tryd.ntmps14
  go_wp2_with fail
  refine (gcd_v h_a h_b (by omega) (by omega)).mono ?_
  rintro e w1 ⟨g, rfl, hn, hb1⟩
  replace h_a := h_a.below hb1
  replace h_b := h_b.below hb1
  replace h_c := h_c.below hb1
  replace hw := hw.trans (hb1.mono hw.size)
  have h_g := hn.bar
  clear hn
  go_wp2_with fail
  refine (lcm_v h_a h_b (by omega) (by omega)).mono ?_
  rintro e w2 ⟨l, rfl, hn, hb2⟩
  replace h_a := h_a.below hb2
  replace h_b := h_b.below hb2
  replace h_c := h_c.below hb2
  replace h_g := h_g.below hb2
  replace hw := hw.trans (hb2.mono hw.size)
  have h_l := hn.bar
  clear hn
  go_wp2_with fail
  refine (mul_v h_g.val h_l.val (by omega)).mono ?_
  rintro e w3 ⟨u, rfl, hn, hb3⟩
  replace h_a := h_a.below hb3
  replace h_b := h_b.below hb3
  replace h_c := h_c.below hb3
  replace h_g := h_g.below hb3
  replace h_l := h_l.below hb3
  replace hw := hw.trans (hb3.mono hw.size)
  have h_u := hn.bar
  clear hn
  go_wp2_with fail
  refine (mul_v h_a h_b (by omega)).mono ?_
  rintro e w4 ⟨v, rfl, hn, hb4⟩
  replace h_a := h_a.below hb4
  replace h_b := h_b.below hb4
  replace h_c := h_c.below hb4
  replace h_g := h_g.below hb4
  replace h_l := h_l.below hb4
  replace h_u := h_u.below hb4
  replace hw := hw.trans (hb4.mono hw.size)
  have h_v := hn.bar
  clear hn
  go_wp2_with fail
  refine (same_v h_u h_v (by omega) (Nat.gcd_mul_lcm na nb)).mono ?_
  rintro e w5 ⟨rfl, hb5⟩
  replace h_a := h_a.below hb5
  replace h_b := h_b.below hb5
  replace h_c := h_c.below hb5
  replace h_g := h_g.below hb5
  clear h_l
  clear h_u
  clear h_v
  replace hw := hw.trans (hb5.mono hw.size)
  go_wp2_with fail
  refine (gcd_v h_b h_a (by omega) (by omega)).mono ?_
  rintro e w6 ⟨u, rfl, hn, hb6⟩
  replace h_a := h_a.below hb6
  replace h_b := h_b.below hb6
  replace h_c := h_c.below hb6
  replace h_g := h_g.below hb6
  replace hw := hw.trans (hb6.mono hw.size)
  have h_u := hn.bar
  clear hn
  go_wp2_with fail
  refine (same_v h_g h_u (by omega) (Nat.gcd_comm na nb)).mono ?_
  rintro e w7 ⟨rfl, hb7⟩
  replace h_a := h_a.below hb7
  replace h_b := h_b.below hb7
  replace h_c := h_c.below hb7
  replace h_g := h_g.below hb7
  clear h_u
  replace hw := hw.trans (hb7.mono hw.size)
  obtain ⟨G, gn, gc, rfl, hG, hgn⟩ := h_g
  rcases Nat.eq_zero_or_pos (Nat.gcd na nb) with hz | hz
  · have hgn0 : gn = 0 := by rw [← hG.len, hz]; rfl
    subst hgn0
    have h_g : Bar _ (.slice G 0 gc) (Ka + Kb) (Nat.gcd na nb) := ⟨G, 0, gc, rfl, hG, hgn⟩
    go_wp2_with fail
    refine (mul_v h_a h_c (by omega)).mono ?_
    rintro e w8 ⟨u, rfl, hn, hb8⟩
    replace h_a := h_a.below hb8
    replace h_b := h_b.below hb8
    replace h_c := h_c.below hb8
    replace h_g := h_g.below hb8
    replace hw := hw.trans (hb8.mono hw.size)
    have h_u := hn.bar
    clear hn
    go_wp2_with fail
    refine (mul_v h_b h_c (by omega)).mono ?_
    rintro e w9 ⟨v, rfl, hn, hb9⟩
    replace h_a := h_a.below hb9
    replace h_b := h_b.below hb9
    replace h_c := h_c.below hb9
    replace h_g := h_g.below hb9
    replace h_u := h_u.below hb9
    replace hw := hw.trans (hb9.mono hw.size)
    have h_v := hn.bar
    clear hn
    go_wp2_with fail
    refine (gcd_v h_u.val h_v.val (by omega) (by omega)).mono ?_
    rintro e w10 ⟨x, rfl, hn, hb10⟩
    replace h_a := h_a.below hb10
    replace h_b := h_b.below hb10
    replace h_c := h_c.below hb10
    replace h_g := h_g.below hb10
    replace h_u := h_u.below hb10
    replace h_v := h_v.below hb10
    replace hw := hw.trans (hb10.mono hw.size)
    have h_x := hn.bar
    clear hn
    go_wp2_with fail
    refine (mul_v h_g.val h_c (by omega)).mono ?_
    rintro e w11 ⟨y, rfl, hn, hb11⟩
    replace h_a := h_a.below hb11
    replace h_b := h_b.below hb11
    replace h_c := h_c.below hb11
    replace h_g := h_g.below hb11
    replace h_u := h_u.below hb11
    replace h_v := h_v.below hb11
    replace h_x := h_x.below hb11
    replace hw := hw.trans (hb11.mono hw.size)
    have h_y := hn.bar
    clear hn
    go_wp2_with fail
    refine (same_v h_x h_y (by omega) (Nat.gcd_mul_right na nc nb)).mono ?_
    rintro e w12 ⟨rfl, hb12⟩
    replace h_a := h_a.below hb12
    replace h_b := h_b.below hb12
    replace h_c := h_c.below hb12
    replace h_g := h_g.below hb12
    clear h_u
    clear h_v
    clear h_x
    clear h_y
    replace hw := hw.trans (hb12.mono hw.size)
    go_wp2_with fail
    refine (mul_v h_b h_c (by omega)).mono ?_
    rintro e w13 ⟨u, rfl, hn, hb13⟩
    replace h_a := h_a.below hb13
    replace h_b := h_b.below hb13
    replace h_c := h_c.below hb13
    replace h_g := h_g.below hb13
    replace hw := hw.trans (hb13.mono hw.size)
    have h_u := hn.bar
    clear hn
    go_wp2_with fail
    refine (add_v h_a h_u.val (by omega)).mono ?_
    rintro e w14 ⟨v, rfl, hn, hb14⟩
    replace h_a := h_a.below hb14
    replace h_b := h_b.below hb14
    replace h_c := h_c.below hb14
    replace h_g := h_g.below hb14
    replace h_u := h_u.below hb14
    replace hw := hw.trans (hb14.mono hw.size)
    have h_v := hn.bar
    clear hn
    go_wp2_with fail
    refine (gcd_v h_v.val h_b (by omega) (by omega)).mono ?_
    rintro e w15 ⟨x, rfl, hn, hb15⟩
    replace h_a := h_a.below hb15
    replace h_b := h_b.below hb15
    replace h_c := h_c.below hb15
    replace h_g := h_g.below hb15
    replace h_u := h_u.below hb15
    replace h_v := h_v.below hb15
    replace hw := hw.trans (hb15.mono hw.size)
    have h_x := hn.bar
    clear hn
    go_wp2_with fail
    refine (same_v h_x h_g (by omega) (by rw [Nat.gcd_add_mul_left_left])).mono ?_
    rintro e w16 ⟨rfl, hb16⟩
    clear h_a
    clear h_b
    clear h_c
    clear h_g
    clear h_u
    clear h_v
    clear h_x
    replace hw := hw.trans (hb16.mono hw.size)
    go_wp2_with fail
    refine (known_any _).mono ?_
    rintro e w17 ⟨rfl, hb17⟩
    replace hw := hw.trans (hb17.mono hw.size)
    go_wp2_with fail
    go_ret
    exact ⟨rfl, hw⟩
  · have hgn1 : 0 < gn := by
      rcases Nat.eq_zero_or_pos gn with h | h
      · have h2 := List.eq_nil_of_length_eq_zero (hG.len.trans h); rw [N.ofN_eq_nil] at h2; omega
      · exact h
    have tg1 : (gn : Int) > 0 := by omega
    have tg : decide ((gn : Int) > 0) = true := decide_eq_true tg1
    have tg' : decide (0 < (gn : Int)) = true := decide_eq_true tg1
    have h_g : Bar _ (.slice G gn gc) (Ka + Kb) (Nat.gcd na nb) := ⟨G, gn, gc, rfl, hG, hgn⟩
    go_wp2_with fail
    refine (dm_v h_a h_g.val (by omega) (by omega) (hz)).mono ?_
    rintro e w8 ⟨qr, r, rfl, hn, hn', _, hb8⟩
    replace h_a := h_a.below hb8
    replace h_b := h_b.below hb8
    replace h_c := h_c.below hb8
    replace h_g := h_g.below hb8
    replace hw := hw.trans (hb8.mono hw.size)
    have h_qr := hn.bar
    clear hn
    have h_r := hn'.bar
    clear hn'
    clear h_qr
    obtain ⟨Rr, nr0, cr, rfl, hR, _⟩ := h_r
    have hnr : nr0 = 0 := by rw [← hR.len, Nat.mod_eq_zero_of_dvd (Nat.gcd_dvd_left na nb)]; rfl
    clear hR
    subst hnr
    go_wp2_with fail
    refine (dm_v h_b h_g.val (by omega) (by omega) (hz)).mono ?_
    rintro e w9 ⟨qs, s, rfl, hn, hn', _, hb9⟩
    replace h_a := h_a.below hb9
    replace h_b := h_b.below hb9
    replace h_c := h_c.below hb9
    replace h_g := h_g.below hb9
    replace hw := hw.trans (hb9.mono hw.size)
    have h_qs := hn.bar
    clear hn
    have h_s := hn'.bar
    clear hn'
    clear h_qs
    obtain ⟨Rs, ns0, cs, rfl, hR, _⟩ := h_s
    have hns : ns0 = 0 := by rw [← hR.len, Nat.mod_eq_zero_of_dvd (Nat.gcd_dvd_right na nb)]; rfl
    clear hR
    subst hns
    go_wp2_with fail
    refine (mul_v h_a h_c (by omega)).mono ?_
    rintro e w10 ⟨u, rfl, hn, hb10⟩
    replace h_a := h_a.below hb10
    replace h_b := h_b.below hb10
    replace h_c := h_c.below hb10
    replace h_g := h_g.below hb10
    replace hw := hw.trans (hb10.mono hw.size)
    have h_u := hn.bar
    clear hn
    go_wp2_with fail
    refine (mul_v h_b h_c (by omega)).mono ?_
    rintro e w11 ⟨v, rfl, hn, hb11⟩
    replace h_a := h_a.below hb11
    replace h_b := h_b.below hb11
    replace h_c := h_c.below hb11
    replace h_g := h_g.below hb11
    replace h_u := h_u.below hb11
    replace hw := hw.trans (hb11.mono hw.size)
    have h_v := hn.bar
    clear hn
    go_wp2_with fail
    refine (gcd_v h_u.val h_v.val (by omega) (by omega)).mono ?_
    rintro e w12 ⟨x, rfl, hn, hb12⟩
    replace h_a := h_a.below hb12
    replace h_b := h_b.below hb12
    replace h_c := h_c.below hb12
    replace h_g := h_g.below hb12
    replace h_u := h_u.below hb12
    replace h_v := h_v.below hb12
    replace hw := hw.trans (hb12.mono hw.size)
    have h_x := hn.bar
    clear hn
    go_wp2_with fail
    refine (mul_v h_g.val h_c (by omega)).mono ?_
    rintro e w13 ⟨y, rfl, hn, hb13⟩
    replace h_a := h_a.below hb13
    replace h_b := h_b.below hb13
    replace h_c := h_c.below hb13
    replace h_g := h_g.below hb13
    replace h_u := h_u.below hb13
    replace h_v := h_v.below hb13
    replace h_x := h_x.below hb13
    replace hw := hw.trans (hb13.mono hw.size)
    have h_y := hn.bar
    clear hn
    go_wp2_with fail
    refine (same_v h_x h_y (by omega) (Nat.gcd_mul_right na nc nb)).mono ?_
    rintro e w14 ⟨rfl, hb14⟩
    replace h_a := h_a.below hb14
    replace h_b := h_b.below hb14
    replace h_c := h_c.below hb14
    replace h_g := h_g.below hb14
    clear h_u
    clear h_v
    clear h_x
    clear h_y
    replace hw := hw.trans (hb14.mono hw.size)
    go_wp2_with fail
    refine (mul_v h_b h_c (by omega)).mono ?_
    rintro e w15 ⟨u, rfl, hn, hb15⟩
    replace h_a := h_a.below hb15
    replace h_b := h_b.below hb15
    replace h_c := h_c.below hb15
    replace h_g := h_g.below hb15
    replace hw := hw.trans (hb15.mono hw.size)
    have h_u := hn.bar
    clear hn
    go_wp2_with fail
    refine (add_v h_a h_u.val (by omega)).mono ?_
    rintro e w16 ⟨v, rfl, hn, hb16⟩
    replace h_a := h_a.below hb16
    replace h_b := h_b.below hb16
    replace h_c := h_c.below hb16
    replace h_g := h_g.below hb16
    replace h_u := h_u.below hb16
    replace hw := hw.trans (hb16.mono hw.size)
    have h_v := hn.bar
    clear hn
    go_wp2_with fail
    refine (gcd_v h_v.val h_b (by omega) (by omega)).mono ?_
    rintro e w17 ⟨x, rfl, hn, hb17⟩
    replace h_a := h_a.below hb17
    replace h_b := h_b.below hb17
    replace h_c := h_c.below hb17
    replace h_g := h_g.below hb17
    replace h_u := h_u.below hb17
    replace h_v := h_v.below hb17
    replace hw := hw.trans (hb17.mono hw.size)
    have h_x := hn.bar
    clear hn
    go_wp2_with fail
    refine (same_v h_x h_g (by omega) (by rw [Nat.gcd_add_mul_left_left])).mono ?_
    rintro e w18 ⟨rfl, hb18⟩
    clear h_a
    clear h_b
    clear h_c
    clear h_g
    clear h_u
    clear h_v
    clear h_x
    replace hw := hw.trans (hb18.mono hw.size)
    go_wp2_with fail
    refine (known_any _).mono ?_
    rintro e w19 ⟨rfl, hb19⟩
    replace hw := hw.trans (hb19.mono hw.size)
    go_wp2_with fail
    go_ret
    exact ⟨rfl, hw⟩
end Go.Proofs.YtchbamlfdknkgaaDoor

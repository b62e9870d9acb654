/-
  The walk of riddlelaw01.NatOrder: it answers true.
-/
import Derived.Test.YtchbamlfdknkgaaDoorKnown
namespace Go.Proofs.YtchbamlfdknkgaaDoor
open Go.RowKit

set_option maxRecDepth 100000 in
set_option maxHeartbeats 2000000 in
theorem walkNatOrder (w : World) (a b c : Value) (Ka na Kb nb Kc nc : Nat) (h_a : Val w a Ka na) (h_b : Val w b Kb nb) (h_c : Val w c Kc nc) (hKa : Ka ≤ 1048576) (hKb : Kb ≤ 1048576) (hKc : Kc ≤ 1048576) :
    Calls Tryd.prog 17 #[a, b, c] w fun e w' => e = .returned (.bool true) ∧ Below w.heap.size w w' := by
  have hw : Below w.heap.size w w := Below.refl _ _
  go_enter Tryd.func17, Tryd.ntmps17
  rcases Nat.lt_trichotomy na nb with hx | hx | hx
  · go_wp2_with fail
    refine (cmp_v h_a h_b (by omega) (by omega)).mono ?_
    rintro e w1 ⟨rfl, hb1⟩
    replace h_a := h_a.below hb1
    replace h_b := h_b.below hb1
    replace h_c := h_c.below hb1
    replace hw := hw.trans (hb1.mono hw.size)
    rw [N.cmpN_lt hx]
    go_wp2_with fail
    refine (cmp_v h_b h_a (by omega) (by omega)).mono ?_
    rintro e w2 ⟨rfl, hb2⟩
    replace h_a := h_a.below hb2
    replace h_b := h_b.below hb2
    replace h_c := h_c.below hb2
    replace hw := hw.trans (hb2.mono hw.size)
    rw [N.cmpN_gt hx]
    go_wp2_with fail
    refine (cmp_v h_a h_a (by omega) (by omega)).mono ?_
    rintro e w3 ⟨rfl, hb3⟩
    replace h_a := h_a.below hb3
    replace h_b := h_b.below hb3
    replace h_c := h_c.below hb3
    replace hw := hw.trans (hb3.mono hw.size)
    rw [N.cmpN_eq]
    rcases Nat.lt_or_ge nc nb with hy | hy
    · go_wp2_with fail
      refine (cmp_v h_b h_c (by omega) (by omega)).mono ?_
      rintro e w4 ⟨rfl, hb4⟩
      replace h_a := h_a.below hb4
      replace h_b := h_b.below hb4
      replace h_c := h_c.below hb4
      replace hw := hw.trans (hb4.mono hw.size)
      rw [N.cmpN_gt hy]
      go_wp2_with fail
      refine (add_v h_a h_c (by omega)).mono ?_
      rintro e w5 ⟨s, rfl, hn, hb5⟩
      replace h_a := h_a.below hb5
      replace h_b := h_b.below hb5
      replace h_c := h_c.below hb5
      replace hw := hw.trans (hb5.mono hw.size)
      have h_s := hn.bar
      clear hn
      go_wp2_with fail
      refine (add_v h_b h_c (by omega)).mono ?_
      rintro e w6 ⟨t, rfl, hn, hb6⟩
      replace h_a := h_a.below hb6
      replace h_b := h_b.below hb6
      replace h_c := h_c.below hb6
      replace h_s := h_s.below hb6
      replace hw := hw.trans (hb6.mono hw.size)
      have h_t := hn.bar
      clear hn
      go_wp2_with fail
      refine (cmp_v h_s.val h_t.val (by omega) (by omega)).mono ?_
      rintro e w7 ⟨rfl, hb7⟩
      replace h_a := h_a.below hb7
      replace h_b := h_b.below hb7
      replace h_c := h_c.below hb7
      clear h_s
      clear h_t
      replace hw := hw.trans (hb7.mono hw.size)
      rw [show N.cmpN (na + nc) (nb + nc) = -1 from N.cmpN_lt (by omega)]
      rcases Nat.eq_zero_or_pos nc with hz | hz
      · go_wp2_with fail
        refine (bits_v h_c (by omega)).mono ?_
        rintro e w8 ⟨rfl, rfl⟩
        rw [show ((bitsM nc : Nat) : Int) = 0 by rw [hz]; rfl]
        go_wp2_with fail
        refine (sub_n h_a h_b (by omega) (by omega) (by omega)).mono ?_
        rintro e w9 ⟨rfl, hb9⟩
        replace h_a := h_a.below hb9
        replace h_b := h_b.below hb9
        replace h_c := h_c.below hb9
        replace hw := hw.trans (hb9.mono hw.size)
        go_wp2_with fail
        refine (known_any _).mono ?_
        rintro e w10 ⟨rfl, hb10⟩
        clear h_a
        clear h_b
        clear h_c
        replace hw := hw.trans (hb10.mono hw.size)
        go_wp2_with fail
        go_ret
        exact ⟨rfl, hw⟩
      · have tb1 : (bitsM nc : Int) > 0 := by have := (bitsM_pos hz).1; omega
        have tb : decide ((bitsM nc : Int) > 0) = true := decide_eq_true tb1
        have tb' : decide (0 < (bitsM nc : Int)) = true := decide_eq_true tb1
        go_wp2_with fail
        refine (bits_v h_c (by omega)).mono ?_
        rintro e w8 ⟨rfl, rfl⟩
        go_wp2_with fail
        refine (mul_v h_a h_c (by omega)).mono ?_
        rintro e w9 ⟨u, rfl, hn, hb9⟩
        replace h_a := h_a.below hb9
        replace h_b := h_b.below hb9
        replace h_c := h_c.below hb9
        replace hw := hw.trans (hb9.mono hw.size)
        have h_u := hn.bar
        clear hn
        go_wp2_with fail
        refine (mul_v h_b h_c (by omega)).mono ?_
        rintro e w10 ⟨v, rfl, hn, hb10⟩
        replace h_a := h_a.below hb10
        replace h_b := h_b.below hb10
        replace h_c := h_c.below hb10
        replace h_u := h_u.below hb10
        replace hw := hw.trans (hb10.mono hw.size)
        have h_v := hn.bar
        clear hn
        go_wp2_with fail
        refine (cmp_v h_u.val h_v.val (by omega) (by omega)).mono ?_
        rintro e w11 ⟨rfl, hb11⟩
        replace h_a := h_a.below hb11
        replace h_b := h_b.below hb11
        replace h_c := h_c.below hb11
        clear h_u
        clear h_v
        replace hw := hw.trans (hb11.mono hw.size)
        rw [show N.cmpN (na * nc) (nb * nc) = -1 from N.cmpN_lt (Nat.mul_lt_mul_of_pos_right hx hz)]
        go_wp2_with fail
        refine (sub_n h_a h_b (by omega) (by omega) (by omega)).mono ?_
        rintro e w12 ⟨rfl, hb12⟩
        replace h_a := h_a.below hb12
        replace h_b := h_b.below hb12
        replace h_c := h_c.below hb12
        replace hw := hw.trans (hb12.mono hw.size)
        go_wp2_with fail
        refine (known_any _).mono ?_
        rintro e w13 ⟨rfl, hb13⟩
        clear h_a
        clear h_b
        clear h_c
        replace hw := hw.trans (hb13.mono hw.size)
        go_wp2_with fail
        go_ret
        exact ⟨rfl, hw⟩
    · have u1 : N.cmpN nb nc ≤ 0 := by rcases N.cmpN_cases nb nc with ⟨h, e⟩ | ⟨h, e⟩ | ⟨h, e⟩ <;> rw [e] <;> omega
      have u2 : N.cmpN na nc ≤ 0 := by rcases N.cmpN_cases na nc with ⟨h, e⟩ | ⟨h, e⟩ | ⟨h, e⟩ <;> rw [e] <;> omega
      have tu1 : decide (N.cmpN nb nc ≤ 0) = true := decide_eq_true u1
      have tu2 : decide (N.cmpN na nc > 0) = false := decide_eq_false (by omega)
      have tu3 : decide (0 < N.cmpN na nc) = false := decide_eq_false (by omega)
      go_wp2_with fail
      refine (cmp_v h_b h_c (by omega) (by omega)).mono ?_
      rintro e w4 ⟨rfl, hb4⟩
      replace h_a := h_a.below hb4
      replace h_b := h_b.below hb4
      replace h_c := h_c.below hb4
      replace hw := hw.trans (hb4.mono hw.size)
      go_wp2_with fail
      refine (cmp_v h_a h_c (by omega) (by omega)).mono ?_
      rintro e w5 ⟨rfl, hb5⟩
      replace h_a := h_a.below hb5
      replace h_b := h_b.below hb5
      replace h_c := h_c.below hb5
      replace hw := hw.trans (hb5.mono hw.size)
      go_wp2_with fail
      refine (add_v h_a h_c (by omega)).mono ?_
      rintro e w6 ⟨s, rfl, hn, hb6⟩
      replace h_a := h_a.below hb6
      replace h_b := h_b.below hb6
      replace h_c := h_c.below hb6
      replace hw := hw.trans (hb6.mono hw.size)
      have h_s := hn.bar
      clear hn
      go_wp2_with fail
      refine (add_v h_b h_c (by omega)).mono ?_
      rintro e w7 ⟨t, rfl, hn, hb7⟩
      replace h_a := h_a.below hb7
      replace h_b := h_b.below hb7
      replace h_c := h_c.below hb7
      replace h_s := h_s.below hb7
      replace hw := hw.trans (hb7.mono hw.size)
      have h_t := hn.bar
      clear hn
      go_wp2_with fail
      refine (cmp_v h_s.val h_t.val (by omega) (by omega)).mono ?_
      rintro e w8 ⟨rfl, hb8⟩
      replace h_a := h_a.below hb8
      replace h_b := h_b.below hb8
      replace h_c := h_c.below hb8
      clear h_s
      clear h_t
      replace hw := hw.trans (hb8.mono hw.size)
      rw [show N.cmpN (na + nc) (nb + nc) = -1 from N.cmpN_lt (by omega)]
      rcases Nat.eq_zero_or_pos nc with hz | hz
      · go_wp2_with fail
        refine (bits_v h_c (by omega)).mono ?_
        rintro e w9 ⟨rfl, rfl⟩
        rw [show ((bitsM nc : Nat) : Int) = 0 by rw [hz]; rfl]
        go_wp2_with fail
        refine (sub_n h_a h_b (by omega) (by omega) (by omega)).mono ?_
        rintro e w10 ⟨rfl, hb10⟩
        replace h_a := h_a.below hb10
        replace h_b := h_b.below hb10
        replace h_c := h_c.below hb10
        replace hw := hw.trans (hb10.mono hw.size)
        go_wp2_with fail
        refine (known_any _).mono ?_
        rintro e w11 ⟨rfl, hb11⟩
        clear h_a
        clear h_b
        clear h_c
        replace hw := hw.trans (hb11.mono hw.size)
        go_wp2_with fail
        go_ret
        exact ⟨rfl, hw⟩
      · have tb1 : (bitsM nc : Int) > 0 := by have := (bitsM_pos hz).1; omega
        have tb : decide ((bitsM nc : Int) > 0) = true := decide_eq_true tb1
        have tb' : decide (0 < (bitsM nc : Int)) = true := decide_eq_true tb1
        go_wp2_with fail
        refine (bits_v h_c (by omega)).mono ?_
        rintro e w9 ⟨rfl, rfl⟩
        go_wp2_with fail
        refine (mul_v h_a h_c (by omega)).mono ?_
        rintro e w10 ⟨u, rfl, hn, hb10⟩
        replace h_a := h_a.below hb10
        replace h_b := h_b.below hb10
        replace h_c := h_c.below hb10
        replace hw := hw.trans (hb10.mono hw.size)
        have h_u := hn.bar
        clear hn
        go_wp2_with fail
        refine (mul_v h_b h_c (by omega)).mono ?_
        rintro e w11 ⟨v, rfl, hn, hb11⟩
        replace h_a := h_a.below hb11
        replace h_b := h_b.below hb11
        replace h_c := h_c.below hb11
        replace h_u := h_u.below hb11
        replace hw := hw.trans (hb11.mono hw.size)
        have h_v := hn.bar
        clear hn
        go_wp2_with fail
        refine (cmp_v h_u.val h_v.val (by omega) (by omega)).mono ?_
        rintro e w12 ⟨rfl, hb12⟩
        replace h_a := h_a.below hb12
        replace h_b := h_b.below hb12
        replace h_c := h_c.below hb12
        clear h_u
        clear h_v
        replace hw := hw.trans (hb12.mono hw.size)
        rw [show N.cmpN (na * nc) (nb * nc) = -1 from N.cmpN_lt (Nat.mul_lt_mul_of_pos_right hx hz)]
        go_wp2_with fail
        refine (sub_n h_a h_b (by omega) (by omega) (by omega)).mono ?_
        rintro e w13 ⟨rfl, hb13⟩
        replace h_a := h_a.below hb13
        replace h_b := h_b.below hb13
        replace h_c := h_c.below hb13
        replace hw := hw.trans (hb13.mono hw.size)
        go_wp2_with fail
        refine (known_any _).mono ?_
        rintro e w14 ⟨rfl, hb14⟩
        clear h_a
        clear h_b
        clear h_c
        replace hw := hw.trans (hb14.mono hw.size)
        go_wp2_with fail
        go_ret
        exact ⟨rfl, hw⟩
  · subst hx
    go_wp2_with fail
    refine (cmp_v h_a h_b (by omega) (by omega)).mono ?_
    rintro e w1 ⟨rfl, hb1⟩
    replace h_a := h_a.below hb1
    replace h_b := h_b.below hb1
    replace h_c := h_c.below hb1
    replace hw := hw.trans (hb1.mono hw.size)
    rw [N.cmpN_eq]
    go_wp2_with fail
    refine (cmp_v h_b h_a (by omega) (by omega)).mono ?_
    rintro e w2 ⟨rfl, hb2⟩
    replace h_a := h_a.below hb2
    replace h_b := h_b.below hb2
    replace h_c := h_c.below hb2
    replace hw := hw.trans (hb2.mono hw.size)
    rw [N.cmpN_eq]
    go_wp2_with fail
    refine (cmp_v h_a h_a (by omega) (by omega)).mono ?_
    rintro e w3 ⟨rfl, hb3⟩
    replace h_a := h_a.below hb3
    replace h_b := h_b.below hb3
    replace h_c := h_c.below hb3
    replace hw := hw.trans (hb3.mono hw.size)
    rw [N.cmpN_eq]
    rcases Nat.lt_or_ge nc na with hy | hy
    · go_wp2_with fail
      refine (cmp_v h_b h_c (by omega) (by omega)).mono ?_
      rintro e w4 ⟨rfl, hb4⟩
      replace h_a := h_a.below hb4
      replace h_b := h_b.below hb4
      replace h_c := h_c.below hb4
      replace hw := hw.trans (hb4.mono hw.size)
      rw [N.cmpN_gt hy]
      go_wp2_with fail
      refine (add_v h_a h_c (by omega)).mono ?_
      rintro e w5 ⟨s, rfl, hn, hb5⟩
      replace h_a := h_a.below hb5
      replace h_b := h_b.below hb5
      replace h_c := h_c.below hb5
      replace hw := hw.trans (hb5.mono hw.size)
      have h_s := hn.bar
      clear hn
      go_wp2_with fail
      refine (add_v h_b h_c (by omega)).mono ?_
      rintro e w6 ⟨t, rfl, hn, hb6⟩
      replace h_a := h_a.below hb6
      replace h_b := h_b.below hb6
      replace h_c := h_c.below hb6
      replace h_s := h_s.below hb6
      replace hw := hw.trans (hb6.mono hw.size)
      have h_t := hn.bar
      clear hn
      go_wp2_with fail
      refine (cmp_v h_s.val h_t.val (by omega) (by omega)).mono ?_
      rintro e w7 ⟨rfl, hb7⟩
      replace h_a := h_a.below hb7
      replace h_b := h_b.below hb7
      replace h_c := h_c.below hb7
      clear h_s
      clear h_t
      replace hw := hw.trans (hb7.mono hw.size)
      rw [N.cmpN_eq]
      rcases Nat.eq_zero_or_pos nc with hz | hz
      · go_wp2_with fail
        refine (bits_v h_c (by omega)).mono ?_
        rintro e w8 ⟨rfl, rfl⟩
        rw [show ((bitsM nc : Nat) : Int) = 0 by rw [hz]; rfl]
        go_wp2_with fail
        refine (sub_v h_a h_b (by omega) (by omega) (Nat.le_refl _)).mono ?_
        rintro e w9 ⟨d, rfl, hn, hb9⟩
        replace h_a := h_a.below hb9
        replace h_b := h_b.below hb9
        replace h_c := h_c.below hb9
        replace hw := hw.trans (hb9.mono hw.size)
        have h_d := hn.bar
        clear hn
        go_wp2_with fail
        refine (known_any _).mono ?_
        rintro e w10 ⟨rfl, hb10⟩
        clear h_a
        clear h_b
        clear h_c
        clear h_d
        replace hw := hw.trans (hb10.mono hw.size)
        go_wp2_with fail
        go_ret
        exact ⟨rfl, hw⟩
      · have tb1 : (bitsM nc : Int) > 0 := by have := (bitsM_pos hz).1; omega
        have tb : decide ((bitsM nc : Int) > 0) = true := decide_eq_true tb1
        have tb' : decide (0 < (bitsM nc : Int)) = true := decide_eq_true tb1
        go_wp2_with fail
        refine (bits_v h_c (by omega)).mono ?_
        rintro e w8 ⟨rfl, rfl⟩
        go_wp2_with fail
        refine (mul_v h_a h_c (by omega)).mono ?_
        rintro e w9 ⟨u, rfl, hn, hb9⟩
        replace h_a := h_a.below hb9
        replace h_b := h_b.below hb9
        replace h_c := h_c.below hb9
        replace hw := hw.trans (hb9.mono hw.size)
        have h_u := hn.bar
        clear hn
        go_wp2_with fail
        refine (mul_v h_b h_c (by omega)).mono ?_
        rintro e w10 ⟨v, rfl, hn, hb10⟩
        replace h_a := h_a.below hb10
        replace h_b := h_b.below hb10
        replace h_c := h_c.below hb10
        replace h_u := h_u.below hb10
        replace hw := hw.trans (hb10.mono hw.size)
        have h_v := hn.bar
        clear hn
        go_wp2_with fail
        refine (cmp_v h_u.val h_v.val (by omega) (by omega)).mono ?_
        rintro e w11 ⟨rfl, hb11⟩
        replace h_a := h_a.below hb11
        replace h_b := h_b.below hb11
        replace h_c := h_c.below hb11
        clear h_u
        clear h_v
        replace hw := hw.trans (hb11.mono hw.size)
        rw [N.cmpN_eq]
        go_wp2_with fail
        refine (sub_v h_a h_b (by omega) (by omega) (Nat.le_refl _)).mono ?_
        rintro e w12 ⟨d, rfl, hn, hb12⟩
        replace h_a := h_a.below hb12
        replace h_b := h_b.below hb12
        replace h_c := h_c.below hb12
        replace hw := hw.trans (hb12.mono hw.size)
        have h_d := hn.bar
        clear hn
        go_wp2_with fail
        refine (known_any _).mono ?_
        rintro e w13 ⟨rfl, hb13⟩
        clear h_a
        clear h_b
        clear h_c
        clear h_d
        replace hw := hw.trans (hb13.mono hw.size)
        go_wp2_with fail
        go_ret
        exact ⟨rfl, hw⟩
    · have u1 : N.cmpN na nc ≤ 0 := by rcases N.cmpN_cases na nc with ⟨h, e⟩ | ⟨h, e⟩ | ⟨h, e⟩ <;> rw [e] <;> omega
      have tu1 : decide (N.cmpN na nc ≤ 0) = true := decide_eq_true u1
      have tu2 : decide (N.cmpN na nc > 0) = false := decide_eq_false (by omega)
      have tu3 : decide (0 < N.cmpN na nc) = false := decide_eq_false (by omega)
      go_wp2_with fail
      refine (cmp_v h_b h_c (by omega) (by omega)).mono ?_
      rintro e w4 ⟨rfl, hb4⟩
      replace h_a := h_a.below hb4
      replace h_b := h_b.below hb4
      replace h_c := h_c.below hb4
      replace hw := hw.trans (hb4.mono hw.size)
      go_wp2_with fail
      refine (cmp_v h_a h_c (by omega) (by omega)).mono ?_
      rintro e w5 ⟨rfl, hb5⟩
      replace h_a := h_a.below hb5
      replace h_b := h_b.below hb5
      replace h_c := h_c.below hb5
      replace hw := hw.trans (hb5.mono hw.size)
      go_wp2_with fail
      refine (add_v h_a h_c (by omega)).mono ?_
      rintro e w6 ⟨s, rfl, hn, hb6⟩
      replace h_a := h_a.below hb6
      replace h_b := h_b.below hb6
      replace h_c := h_c.below hb6
      replace hw := hw.trans (hb6.mono hw.size)
      have h_s := hn.bar
      clear hn
      go_wp2_with fail
      refine (add_v h_b h_c (by omega)).mono ?_
      rintro e w7 ⟨t, rfl, hn, hb7⟩
      replace h_a := h_a.below hb7
      replace h_b := h_b.below hb7
      replace h_c := h_c.below hb7
      replace h_s := h_s.below hb7
      replace hw := hw.trans (hb7.mono hw.size)
      have h_t := hn.bar
      clear hn
      go_wp2_with fail
      refine (cmp_v h_s.val h_t.val (by omega) (by omega)).mono ?_
      rintro e w8 ⟨rfl, hb8⟩
      replace h_a := h_a.below hb8
      replace h_b := h_b.below hb8
      replace h_c := h_c.below hb8
      clear h_s
      clear h_t
      replace hw := hw.trans (hb8.mono hw.size)
      rw [N.cmpN_eq]
      rcases Nat.eq_zero_or_pos nc with hz | hz
      · go_wp2_with fail
        refine (bits_v h_c (by omega)).mono ?_
        rintro e w9 ⟨rfl, rfl⟩
        rw [show ((bitsM nc : Nat) : Int) = 0 by rw [hz]; rfl]
        go_wp2_with fail
        refine (sub_v h_a h_b (by omega) (by omega) (Nat.le_refl _)).mono ?_
        rintro e w10 ⟨d, rfl, hn, hb10⟩
        replace h_a := h_a.below hb10
        replace h_b := h_b.below hb10
        replace h_c := h_c.below hb10
        replace hw := hw.trans (hb10.mono hw.size)
        have h_d := hn.bar
        clear hn
        go_wp2_with fail
        refine (known_any _).mono ?_
        rintro e w11 ⟨rfl, hb11⟩
        clear h_a
        clear h_b
        clear h_c
        clear h_d
        replace hw := hw.trans (hb11.mono hw.size)
        go_wp2_with fail
        go_ret
        exact ⟨rfl, hw⟩
      · have tb1 : (bitsM nc : Int) > 0 := by have := (bitsM_pos hz).1; omega
        have tb : decide ((bitsM nc : Int) > 0) = true := decide_eq_true tb1
        have tb' : decide (0 < (bitsM nc : Int)) = true := decide_eq_true tb1
        go_wp2_with fail
        refine (bits_v h_c (by omega)).mono ?_
        rintro e w9 ⟨rfl, rfl⟩
        go_wp2_with fail
        refine (mul_v h_a h_c (by omega)).mono ?_
        rintro e w10 ⟨u, rfl, hn, hb10⟩
        replace h_a := h_a.below hb10
        replace h_b := h_b.below hb10
        replace h_c := h_c.below hb10
        replace hw := hw.trans (hb10.mono hw.size)
        have h_u := hn.bar
        clear hn
        go_wp2_with fail
        refine (mul_v h_b h_c (by omega)).mono ?_
        rintro e w11 ⟨v, rfl, hn, hb11⟩
        replace h_a := h_a.below hb11
        replace h_b := h_b.below hb11
        replace h_c := h_c.below hb11
        replace h_u := h_u.below hb11
        replace hw := hw.trans (hb11.mono hw.size)
        have h_v := hn.bar
        clear hn
        go_wp2_with fail
        refine (cmp_v h_u.val h_v.val (by omega) (by omega)).mono ?_
        rintro e w12 ⟨rfl, hb12⟩
        replace h_a := h_a.below hb12
        replace h_b := h_b.below hb12
        replace h_c := h_c.below hb12
        clear h_u
        clear h_v
        replace hw := hw.trans (hb12.mono hw.size)
        rw [N.cmpN_eq]
        go_wp2_with fail
        refine (sub_v h_a h_b (by omega) (by omega) (Nat.le_refl _)).mono ?_
        rintro e w13 ⟨d, rfl, hn, hb13⟩
        replace h_a := h_a.below hb13
        replace h_b := h_b.below hb13
        replace h_c := h_c.below hb13
        replace hw := hw.trans (hb13.mono hw.size)
        have h_d := hn.bar
        clear hn
        go_wp2_with fail
        refine (known_any _).mono ?_
        rintro e w14 ⟨rfl, hb14⟩
        clear h_a
        clear h_b
        clear h_c
        clear h_d
        replace hw := hw.trans (hb14.mono hw.size)
        go_wp2_with fail
        go_ret
        exact ⟨rfl, hw⟩
  · go_wp2_with fail
    refine (cmp_v h_a h_b (by omega) (by omega)).mono ?_
    rintro e w1 ⟨rfl, hb1⟩
    replace h_a := h_a.below hb1
    replace h_b := h_b.below hb1
    replace h_c := h_c.below hb1
    replace hw := hw.trans (hb1.mono hw.size)
    rw [N.cmpN_gt hx]
    go_wp2_with fail
    refine (cmp_v h_b h_a (by omega) (by omega)).mono ?_
    rintro e w2 ⟨rfl, hb2⟩
    replace h_a := h_a.below hb2
    replace h_b := h_b.below hb2
    replace h_c := h_c.below hb2
    replace hw := hw.trans (hb2.mono hw.size)
    rw [N.cmpN_lt hx]
    go_wp2_with fail
    refine (cmp_v h_a h_a (by omega) (by omega)).mono ?_
    rintro e w3 ⟨rfl, hb3⟩
    replace h_a := h_a.below hb3
    replace h_b := h_b.below hb3
    replace h_c := h_c.below hb3
    replace hw := hw.trans (hb3.mono hw.size)
    rw [N.cmpN_eq]
    go_wp2_with fail
    refine (add_v h_a h_c (by omega)).mono ?_
    rintro e w4 ⟨s, rfl, hn, hb4⟩
    replace h_a := h_a.below hb4
    replace h_b := h_b.below hb4
    replace h_c := h_c.below hb4
    replace hw := hw.trans (hb4.mono hw.size)
    have h_s := hn.bar
    clear hn
    go_wp2_with fail
    refine (add_v h_b h_c (by omega)).mono ?_
    rintro e w5 ⟨t, rfl, hn, hb5⟩
    replace h_a := h_a.below hb5
    replace h_b := h_b.below hb5
    replace h_c := h_c.below hb5
    replace h_s := h_s.below hb5
    replace hw := hw.trans (hb5.mono hw.size)
    have h_t := hn.bar
    clear hn
    go_wp2_with fail
    refine (cmp_v h_s.val h_t.val (by omega) (by omega)).mono ?_
    rintro e w6 ⟨rfl, hb6⟩
    replace h_a := h_a.below hb6
    replace h_b := h_b.below hb6
    replace h_c := h_c.below hb6
    clear h_s
    clear h_t
    replace hw := hw.trans (hb6.mono hw.size)
    rw [show N.cmpN (na + nc) (nb + nc) = 1 from N.cmpN_gt (by omega)]
    rcases Nat.eq_zero_or_pos nc with hz | hz
    · go_wp2_with fail
      refine (bits_v h_c (by omega)).mono ?_
      rintro e w7 ⟨rfl, rfl⟩
      rw [show ((bitsM nc : Nat) : Int) = 0 by rw [hz]; rfl]
      go_wp2_with fail
      refine (sub_v h_a h_b (by omega) (by omega) (by omega)).mono ?_
      rintro e w8 ⟨d, rfl, hn, hb8⟩
      replace h_a := h_a.below hb8
      replace h_b := h_b.below hb8
      replace h_c := h_c.below hb8
      replace hw := hw.trans (hb8.mono hw.size)
      have h_d := hn.bar
      clear hn
      go_wp2_with fail
      refine (known_any _).mono ?_
      rintro e w9 ⟨rfl, hb9⟩
      clear h_a
      clear h_b
      clear h_c
      clear h_d
      replace hw := hw.trans (hb9.mono hw.size)
      go_wp2_with fail
      go_ret
      exact ⟨rfl, hw⟩
    · have tb1 : (bitsM nc : Int) > 0 := by have := (bitsM_pos hz).1; omega
      have tb : decide ((bitsM nc : Int) > 0) = true := decide_eq_true tb1
      have tb' : decide (0 < (bitsM nc : Int)) = true := decide_eq_true tb1
      go_wp2_with fail
      refine (bits_v h_c (by omega)).mono ?_
      rintro e w7 ⟨rfl, rfl⟩
      go_wp2_with fail
      refine (mul_v h_a h_c (by omega)).mono ?_
      rintro e w8 ⟨u, rfl, hn, hb8⟩
      replace h_a := h_a.below hb8
      replace h_b := h_b.below hb8
      replace h_c := h_c.below hb8
      replace hw := hw.trans (hb8.mono hw.size)
      have h_u := hn.bar
      clear hn
      go_wp2_with fail
      refine (mul_v h_b h_c (by omega)).mono ?_
      rintro e w9 ⟨v, rfl, hn, hb9⟩
      replace h_a := h_a.below hb9
      replace h_b := h_b.below hb9
      replace h_c := h_c.below hb9
      replace h_u := h_u.below hb9
      replace hw := hw.trans (hb9.mono hw.size)
      have h_v := hn.bar
      clear hn
      go_wp2_with fail
      refine (cmp_v h_u.val h_v.val (by omega) (by omega)).mono ?_
      rintro e w10 ⟨rfl, hb10⟩
      replace h_a := h_a.below hb10
      replace h_b := h_b.below hb10
      replace h_c := h_c.below hb10
      clear h_u
      clear h_v
      replace hw := hw.trans (hb10.mono hw.size)
      rw [show N.cmpN (na * nc) (nb * nc) = 1 from N.cmpN_gt (Nat.mul_lt_mul_of_pos_right hx hz)]
      go_wp2_with fail
      refine (sub_v h_a h_b (by omega) (by omega) (by omega)).mono ?_
      rintro e w11 ⟨d, rfl, hn, hb11⟩
      replace h_a := h_a.below hb11
      replace h_b := h_b.below hb11
      replace h_c := h_c.below hb11
      replace hw := hw.trans (hb11.mono hw.size)
      have h_d := hn.bar
      clear hn
      go_wp2_with fail
      refine (known_any _).mono ?_
      rintro e w12 ⟨rfl, hb12⟩
      clear h_a
      clear h_b
      clear h_c
      clear h_d
      replace hw := hw.trans (hb12.mono hw.size)
      go_wp2_with fail
      go_ret
      exact ⟨rfl, hw⟩
end Go.Proofs.YtchbamlfdknkgaaDoor

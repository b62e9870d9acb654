/-
  The walk of riddlelaw01.NatDivides: it answers true.
-/
import Derived.Test.YtchbamlfdknkgaaDoorKnown
namespace Go.Proofs.YtchbamlfdknkgaaDoor
open Go.RowKit

theorem N.md_q (a c : Nat) {b : Nat} (h : 0 < b) : (a * b + c % b) / b = a := by
  rw [Nat.mul_comm, Nat.mul_add_div h, Nat.div_eq_of_lt (Nat.mod_lt _ h), Nat.add_zero]
theorem N.md_r (a c : Nat) {b : Nat} (_h : 0 < b) : (a * b + c % b) % b = c % b := by
  rw [Nat.mul_comm, Nat.mul_add_mod, Nat.mod_mod]

set_option maxRecDepth 100000 in
set_option maxHeartbeats 2000000 in
theorem walkNatDivides (w : World) (a b c : Value) (Ka na Kb nb Kc nc : Nat) (h_a : Val w a Ka na) (h_b : Val w b Kb nb) (h_c : Val w c Kc nc) (hKa : Ka ≤ 1048576) (hKb : Kb ≤ 1048576) (hKc : Kc ≤ 1048576) :
    Calls Tryd.prog 12 #[a, b, c] w fun e w' => e = .returned (.bool true) ∧ Below w.heap.size w w' := by
  have hw : Below w.heap.size w w := Below.refl _ _
  go_enter Tryd.func12, Tryd.ntmps12
  go_wp2_with fail
  refine (known_any _).mono ?_
  rintro e w1 ⟨rfl, hb1⟩
  replace h_a := h_a.below hb1
  replace h_b := h_b.below hb1
  replace h_c := h_c.below hb1
  replace hw := hw.trans (hb1.mono hw.size)
  rcases Nat.eq_zero_or_pos nb with hz | hz
  · go_wp2_with fail
    refine (bits_v h_b (by omega)).mono ?_
    rintro e w2 ⟨rfl, rfl⟩
    rw [show ((bitsM nb : Nat) : Int) = 0 by rw [hz]; rfl]
    go_wp2_with fail
    refine (dm_z h_a h_b (by omega) (by omega) (hz)).mono ?_
    rintro e w3 ⟨rfl, rfl⟩
    go_wp2_with fail
    go_ret
    exact ⟨rfl, hw⟩
  · have tb1 : ¬ (bitsM nb : Int) = 0 := by have := (bitsM_pos hz).1; omega
    have tb : ((bitsM nb : Int) == 0) = false := by simpa using tb1
    go_wp2_with fail
    refine (bits_v h_b (by omega)).mono ?_
    rintro e w2 ⟨rfl, rfl⟩
    go_wp2_with fail
    refine (dm_v h_a h_b (by omega) (by omega) (hz)).mono ?_
    rintro e w3 ⟨q, r, rfl, hn, hn', _, hb3⟩
    replace h_a := h_a.below hb3
    replace h_b := h_b.below hb3
    replace h_c := h_c.below hb3
    replace hw := hw.trans (hb3.mono hw.size)
    have h_q := hn.bar
    clear hn
    have h_r := hn'.bar
    clear hn'
    go_wp2_with fail
    refine (dm_v h_c h_b (by omega) (by omega) (hz)).mono ?_
    rintro e w4 ⟨o, less, rfl, hn, hn', _, hb4⟩
    replace h_a := h_a.below hb4
    replace h_b := h_b.below hb4
    replace h_c := h_c.below hb4
    replace h_q := h_q.below hb4
    replace h_r := h_r.below hb4
    replace hw := hw.trans (hb4.mono hw.size)
    have h_o := hn.bar
    clear hn
    have h_less := hn'.bar
    clear hn'
    go_wp2_with fail
    refine (mul_v h_a h_b (by omega)).mono ?_
    rintro e w5 ⟨m, rfl, hn, hb5⟩
    replace h_a := h_a.below hb5
    replace h_b := h_b.below hb5
    replace h_c := h_c.below hb5
    replace h_q := h_q.below hb5
    replace h_r := h_r.below hb5
    replace h_o := h_o.below hb5
    replace h_less := h_less.below hb5
    replace hw := hw.trans (hb5.mono hw.size)
    have h_m := hn.bar
    clear hn
    go_wp2_with fail
    refine (add_v h_m.val h_less.val (by omega)).mono ?_
    rintro e w6 ⟨k, rfl, hn, hb6⟩
    replace h_a := h_a.below hb6
    replace h_b := h_b.below hb6
    replace h_c := h_c.below hb6
    replace h_q := h_q.below hb6
    replace h_r := h_r.below hb6
    clear h_o
    replace h_less := h_less.below hb6
    replace h_m := h_m.below hb6
    replace hw := hw.trans (hb6.mono hw.size)
    have h_k := hn.bar
    clear hn
    go_wp2_with fail
    refine (dm_v h_k.val h_b (by omega) (by omega) (hz)).mono ?_
    rintro e w7 ⟨s, t, rfl, hn, hn', _, hb7⟩
    replace h_a := h_a.below hb7
    replace h_b := h_b.below hb7
    replace h_c := h_c.below hb7
    replace h_q := h_q.below hb7
    replace h_r := h_r.below hb7
    replace h_less := h_less.below hb7
    replace h_m := h_m.below hb7
    replace h_k := h_k.below hb7
    replace hw := hw.trans (hb7.mono hw.size)
    have h_s := hn.bar
    clear hn
    have h_t := hn'.bar
    clear hn'
    go_wp2_with fail
    refine (cmp_v h_r.val h_b (by omega) (by omega)).mono ?_
    rintro e w8 ⟨rfl, hb8⟩
    replace h_a := h_a.below hb8
    replace h_b := h_b.below hb8
    replace h_c := h_c.below hb8
    replace h_q := h_q.below hb8
    replace h_r := h_r.below hb8
    replace h_less := h_less.below hb8
    replace h_m := h_m.below hb8
    replace h_k := h_k.below hb8
    replace h_s := h_s.below hb8
    replace h_t := h_t.below hb8
    replace hw := hw.trans (hb8.mono hw.size)
    rw [N.cmpN_lt (Nat.mod_lt _ hz)]
    go_wp2_with fail
    refine (mul_v h_q.val h_b (by omega)).mono ?_
    rintro e w9 ⟨v, rfl, hn, hb9⟩
    replace h_a := h_a.below hb9
    replace h_b := h_b.below hb9
    replace h_c := h_c.below hb9
    replace h_q := h_q.below hb9
    replace h_r := h_r.below hb9
    replace h_less := h_less.below hb9
    replace h_m := h_m.below hb9
    replace h_k := h_k.below hb9
    replace h_s := h_s.below hb9
    replace h_t := h_t.below hb9
    replace hw := hw.trans (hb9.mono hw.size)
    have h_v := hn.bar
    clear hn
    go_wp2_with fail
    refine (add_v h_v.val h_r.val (by omega)).mono ?_
    rintro e w10 ⟨x, rfl, hn, hb10⟩
    replace h_a := h_a.below hb10
    replace h_b := h_b.below hb10
    replace h_c := h_c.below hb10
    replace h_q := h_q.below hb10
    replace h_r := h_r.below hb10
    replace h_less := h_less.below hb10
    replace h_m := h_m.below hb10
    replace h_k := h_k.below hb10
    replace h_s := h_s.below hb10
    replace h_t := h_t.below hb10
    replace h_v := h_v.below hb10
    replace hw := hw.trans (hb10.mono hw.size)
    have h_x := hn.bar
    clear hn
    go_wp2_with fail
    refine (cmp_v h_x.val h_a (by omega) (by omega)).mono ?_
    rintro e w11 ⟨rfl, hb11⟩
    replace h_a := h_a.below hb11
    replace h_b := h_b.below hb11
    replace h_c := h_c.below hb11
    replace h_q := h_q.below hb11
    replace h_r := h_r.below hb11
    replace h_less := h_less.below hb11
    replace h_m := h_m.below hb11
    replace h_k := h_k.below hb11
    replace h_s := h_s.below hb11
    replace h_t := h_t.below hb11
    replace h_v := h_v.below hb11
    replace h_x := h_x.below hb11
    replace hw := hw.trans (hb11.mono hw.size)
    rw [show na / nb * nb + na % nb = na from Nat.div_add_mod' na nb, N.cmpN_eq]
    go_wp2_with fail
    refine (cmp_v h_s.val h_a (by omega) (by omega)).mono ?_
    rintro e w12 ⟨rfl, hb12⟩
    replace h_a := h_a.below hb12
    replace h_b := h_b.below hb12
    replace h_c := h_c.below hb12
    replace h_q := h_q.below hb12
    replace h_r := h_r.below hb12
    replace h_less := h_less.below hb12
    replace h_m := h_m.below hb12
    replace h_k := h_k.below hb12
    replace h_s := h_s.below hb12
    replace h_t := h_t.below hb12
    replace h_v := h_v.below hb12
    replace h_x := h_x.below hb12
    replace hw := hw.trans (hb12.mono hw.size)
    rw [show (na * nb + nc % nb) / nb = na from N.md_q na nc hz, N.cmpN_eq]
    go_wp2_with fail
    refine (same_v h_t h_less (by omega) (N.md_r na nc hz)).mono ?_
    rintro e w13 ⟨rfl, hb13⟩
    clear h_a
    clear h_b
    clear h_c
    clear h_q
    clear h_r
    clear h_less
    clear h_m
    clear h_k
    clear h_s
    clear h_t
    clear h_v
    clear h_x
    replace hw := hw.trans (hb13.mono hw.size)
    go_wp2_with fail
    go_ret
    exact ⟨rfl, hw⟩
end Go.Proofs.YtchbamlfdknkgaaDoor

/-
  The walk of riddlelaw01.NatDigits: it answers true.
-/
import Derived.Test.YtchbamlfdknkgaaDoorKnown
namespace Go.Proofs.YtchbamlfdknkgaaDoor
open Go.RowKit

namespace N
theorem nv_set_rep (n i x : Nat) (h : i < n) : nv ((List.replicate n 0).set i x) = 4294967296 ^ i * x := by
  have e : (List.replicate n 0).set i x = List.replicate i 0 ++ x :: List.replicate (n - i - 1) 0 := by
    apply List.ext_getElem?
    intro k
    rw [List.getElem?_set]
    rcases Nat.lt_trichotomy k i with hk | hk | hk
    · rw [if_neg (by omega), List.getElem?_append_left (by simpa using hk)]
      rw [List.getElem?_replicate, List.getElem?_replicate, if_pos hk, if_pos (by omega)]
    · subst hk
      rw [if_pos rfl, List.getElem?_append_right (by simp)]
      simp [h]
    · rw [if_neg (by omega), List.getElem?_append_right (by simp; omega)]
      obtain ⟨j, rfl⟩ : ∃ j, k = i + 1 + j := ⟨k - i - 1, by omega⟩
      rw [List.length_replicate, show i + 1 + j - i = j + 1 by omega, List.getElem?_cons_succ]
      simp only [List.getElem?_replicate]
      by_cases hj : i + 1 + j < n
      · rw [if_pos hj, if_pos (by omega)]
      · rw [if_neg hj, if_neg (by omega)]
  rw [e, nv_append, nv_rep, List.length_replicate, Nat.zero_add]
  show _ * (x + 4294967296 * nv (List.replicate (n - i - 1) 0)) = _
  rw [nv_rep, Nat.mul_zero, Nat.add_zero]
theorem pow_word (k : Nat) : 4294967296 ^ (k / 32) * 2 ^ (k % 32) = 2 ^ k := by
  rw [show 4294967296 = 2 ^ 32 from rfl, ← Nat.pow_mul, ← Nat.pow_add]
  congr 1; omega
theorem pow_mod (k : Nat) : 2 ^ (k % 32) < 4294967296 := by
  rw [show 4294967296 = 2 ^ 32 from rfl]
  exact Nat.pow_lt_pow_right (by omega) (by omega)
end N
theorem bitsM_le {x K : Nat} (h : x < 4294967296 ^ K) : bitsM x ≤ 32 * K := by
  rcases Nat.eq_zero_or_pos x with h0 | h0
  · subst h0; exact Nat.zero_le _
  · obtain ⟨h1, h2, _⟩ := bitsM_pos h0
    rw [show 4294967296 = 2 ^ 32 from rfl, ← Nat.pow_mul] at h
    have h3 := (Nat.pow_lt_pow_iff_right (a := 2) (by omega)).1 (Nat.lt_of_le_of_lt h2 h)
    omega
theorem bitsM_double {x : Nat} (h : 0 < x) : bitsM (x + x) = bitsM x + 1 := by
  obtain ⟨h1, h2, h3⟩ := bitsM_pos h
  obtain ⟨k1, k2, k3⟩ := bitsM_pos (x := x + x) (by omega)
  have e1 : 2 ^ bitsM x = 2 * 2 ^ (bitsM x - 1) := by rw [← Nat.pow_succ', show (bitsM x - 1).succ = bitsM x by omega]
  have e2 : 2 ^ (bitsM x + 1) = 2 * 2 ^ bitsM x := Nat.pow_succ'
  have a1 : bitsM (x + x) - 1 < bitsM x + 1 := (Nat.pow_lt_pow_iff_right (a := 2) (by omega)).1 (by omega)
  have a2 : bitsM x < bitsM (x + x) := (Nat.pow_lt_pow_iff_right (a := 2) (by omega)).1 (by omega)
  omega

set_option maxRecDepth 100000 in
set_option maxHeartbeats 2000000 in
theorem walkNatDigits (w : World) (a : Value) (Ka na : Nat) (h_a : Val w a Ka na) (hKa : Ka ≤ 1048576) :
    Calls Tryd.prog 13 #[a] w fun e w' => e = .returned (.bool true) ∧ Below w.heap.size w w' := by
  obtain ⟨i0, hi, iz0, iz1, iz2⟩ := info_parts info_u32
  obtain ⟨A, n, c, l, rfl, hs, hx, hn⟩ := h_a
  have hlt : na < 4294967296 ^ n := by have := N.nv_lt hs.lim; rw [hs.len, hx] at this; exact this
  have h_a : Val w (.slice A n c) n na := ⟨A, n, c, l, rfl, hs, hx, Nat.le_refl _⟩
  clear hs hx
  have hb32 := bitsM_le hlt
  have hw : Below w.heap.size w w := Below.refl _ _
  rcases Nat.eq_zero_or_pos na with hz | hz
  · subst hz
    go_enter Tryd.func13, Tryd.ntmps13
    go_wp2_with fail
    refine (bits_v h_a (by omega)).mono ?_
    rintro e w1 ⟨rfl, rfl⟩
    rw [show ((bitsM 0 : Nat) : Int) = 0 from rfl]
    have t1 : decide ((0 : Int) > 32 * (n : Int)) = false := decide_eq_false (by omega)
    have t2 : decide (32 * (n : Int) < 0) = false := decide_eq_false (by omega)
    go_wp2_with fail
    refine (add_v h_a h_a (by omega)).mono ?_
    rintro e w2 ⟨v, rfl, hv, hb2⟩
    replace h_a := h_a.below hb2
    replace hw := hw.trans (hb2.mono hw.size)
    go_wp2_with fail
    refine (bits_v hv.bar.val (by omega)).mono ?_
    rintro e w3 ⟨rfl, rfl⟩
    rw [show ((bitsM (0 + 0) : Nat) : Int) = 0 from rfl]
    have hnil : Val w2 (.slice none 0 0) 0 0 := ⟨none, 0, 0, [], rfl, Sl.nil _ _ _, rfl, Nat.le_refl _⟩
    go_wp2_with fail
    refine (cmp_v h_a hnil (by omega) (by omega)).mono ?_
    rintro e w4 ⟨rfl, hb4⟩
    rw [N.cmpN_eq]
    replace hw := hw.trans (hb4.mono hw.size)
    go_wp2_with fail
    refine (known_any _).mono ?_
    rintro e w5 ⟨rfl, hb5⟩
    replace hw := hw.trans (hb5.mono hw.size)
    go_wp2_with fail
    go_ret
    exact ⟨rfl, hw⟩
  · obtain ⟨h1, h2, h3⟩ := bitsM_pos hz
    have hd := bitsM_double hz
    have hpw := N.pow_word (bitsM na - 1)
    have hpm := N.pow_mod (bitsM na - 1)
    go_enter Tryd.func13, Tryd.ntmps13
    go_wp2_with fail
    refine (bits_v h_a (by omega)).mono ?_
    rintro e w1 ⟨rfl, rfl⟩
    obtain ⟨k, hk⟩ : ∃ k, bitsM na = k := ⟨_, rfl⟩
    rw [hk] at hb32 h1 h2 h3 hd hpw hpm ⊢
    have t1 : decide ((k : Int) > 32 * (n : Int)) = false := decide_eq_false (by omega)
    have t2 : decide (32 * (n : Int) < (k : Int)) = false := decide_eq_false (by omega)
    have t3 : decide ((k : Int) < 0) = false := decide_eq_false (by omega)
    have t4 : ((k : Int) == 0) = false := by have : ¬ (k : Int) = 0 := by omega
                                             simpa using this
    go_wp2_with fail
    refine (add_v h_a h_a (by omega)).mono ?_
    rintro e w2 ⟨v, rfl, hv, hb2⟩
    replace h_a := h_a.below hb2
    replace hw := hw.trans (hb2.mono hw.size)
    go_wp2_with fail
    refine (bits_v hv.bar.val (by omega)).mono ?_
    rintro e w3 ⟨rfl, rfl⟩
    rw [hd]
    have t5 : (((k + 1 : Nat) : Int) != (k : Int) + 1) = false := by simp
    go_wp2_with (at_make; refine wpList_make_lim _ rfl (.tmp 39) (.tmp 39) 40 rfl i0 Tryd.underlying40 hi iz0 iz1 iz2 .i64 .i64 _ _ (k / 32 + 1) rfl rfl (by omega) (by omega) (by omega) ?_; intro w4 ho4 hb4; have hc4 := ho4.cell ((k - 1) / 32) (by omega); have hf4 := ho4.free ((k - 1) / 32); have hk1 : (k : Int) - 1 = ((k - 1 : Nat) : Int) := by omega)
    obtain ⟨p, hp⟩ : ∃ p, p = 2 ^ ((k - 1) % 32) := ⟨_, rfl⟩
    have hpi : (2 : Int) ^ ((k - 1) % 32) = (p : Nat) := by rw [hp]; simp
    rw [hpi]
    rw [← hp] at hpm hpw
    have ho5 := ho4.set' ((k - 1) / 32) p hpm ((p : Int) % 4294967296) (by omega)
    have hb5 : Below w2.heap.size w2 (w4.setCell ⟨w2.heap.size, (k - 1) / 32, none⟩ (.int .u32 ((p : Int) % 4294967296))) := hb4.setCell (Nat.le_refl _) _
    have hlow : Val _ (.slice (some ⟨w2.heap.size, 0, none⟩) (k / 32 + 1) (k / 32 + 1)) (k / 32 + 1) (2 ^ (k - 1)) := ⟨_, _, _, _, rfl, ho5.sl, by rw [N.nv_set_rep _ _ _ (by omega), hpw], Nat.le_refl _⟩
    replace h_a := h_a.below hb5
    replace hw := hw.trans (hb5.mono hw.size)
    clear ho4 hb4 hc4 hf4 ho5 hb5 hpi hp hpw hpm hk1
    have hk2 : 2 ^ k = 2 ^ (k - 1) + 2 ^ (k - 1) := by rw [← Nat.two_mul, ← Nat.pow_succ', show (k - 1).succ = k by omega]
    clear hd
    rw [hk2] at h3
    clear hk2
    generalize 2 ^ (k - 1) = P at hlow h2 h3 ⊢
    have u1 : N.cmpN P na ≤ 0 := by rcases N.cmpN_cases P na with ⟨h, e⟩ | ⟨h, e⟩ | ⟨h, e⟩ <;> rw [e] <;> omega
    have tu1 : decide (N.cmpN P na ≤ 0) = true := decide_eq_true u1
    refine (cmp_v hlow h_a (by omega) (by omega)).mono ?_
    rintro e w6 ⟨rfl, hb6⟩
    replace h_a := h_a.below hb6
    replace hlow := hlow.below hb6
    replace hw := hw.trans (hb6.mono hw.size)
    go_wp2_with fail
    refine (add_v hlow hlow (by omega)).mono ?_
    rintro e w7 ⟨x, rfl, hx, hb7⟩
    replace h_a := h_a.below hb7
    replace hw := hw.trans (hb7.mono hw.size)
    go_wp2_with fail
    refine (cmp_v h_a hx.bar.val (by omega) (by omega)).mono ?_
    rintro e w8 ⟨rfl, hb8⟩
    rw [N.cmpN_lt h3]
    replace hw := hw.trans (hb8.mono hw.size)
    go_wp2_with fail
    refine (known_any _).mono ?_
    rintro e w9 ⟨rfl, hb9⟩
    replace hw := hw.trans (hb9.mono hw.size)
    go_wp2_with fail
    go_ret
    exact ⟨rfl, hw⟩
end Go.Proofs.YtchbamlfdknkgaaDoor

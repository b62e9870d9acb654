/-
  zint.Valid, zint.Int64: contracts.
-/
import Derived.Test.YtiidghfkdjefgaaDoorZRef4
import Derived.Test.YtiidghfkdjefgaaDoorZTwo
import Derived.Deep.Cut
import Derived.WalkSmall
namespace Go.Proofs.YtiidghfkdjefgaaDoor
open Go.RowKit

theorem vld_last {s : Bool} {l : List Nat} (hl : N.Lim l) (h : l ≠ []) : vld s l = decide (N.dg l (l.length - 1) ≠ 0) := by
  have hlen : 0 < l.length := by cases l with
    | nil => exact absurd rfl h
    | cons _ _ => simp
  unfold vld
  by_cases h0 : N.dg l (l.length - 1) = 0
  · have h1 : (N.ofN (N.nv l)).length ≤ l.length - 1 := by
      rw [N.nv_of_zero (l := l) (n := l.length - 1) (fun j hj => by
        rcases Nat.lt_or_ge j l.length with h2 | h2
        · obtain rfl : j = l.length - 1 := by omega
          exact h0
        · exact N.dg_ge l j h2)]
      have := N.ofN_nv_length (hl.take (l.length - 1))
      rw [List.length_take] at this
      omega
    rw [decide_eq_false (show ¬ (N.ofN (N.nv l)).length = l.length by omega), Bool.and_false]
    simp [h0]
  · have h1 : N.nv l ≠ 0 := N.nv_ne_of h0
    have h2 := N.bare_len hl (Nat.le_refl l.length) (fun k h3 h4 => by omega) (.inr h0)
    rw [decide_eq_true (show 0 < N.nv l by omega), Bool.and_true, h2]
    simp [h0]
set_option maxRecDepth 100000 in
set_option maxHeartbeats 1600000 in
theorem valid_i {w : World} {v : Value} {K : Nat} {s : Bool} {l : List Nat} (h : IRaw w v K s l) (hK : K ≤ 9223372036854775807) :
    Calls Tryd.prog 40 #[v] w fun e w' => e = .returned (.bool (vld s l)) ∧ Below w.heap.size w w' := by
  obtain ⟨G, hG⟩ : ∃ G, G = vld s l := ⟨_, rfl⟩
  rw [← hG]
  obtain ⟨A, n, c, rfl, hp, hs, hn⟩ := h
  have hlen := hs.len
  have hbw := below_alloc1 w (.cells #[.bool s, .slice A n c] 24)
  rcases Nat.eq_zero_or_pos n with rfl | h0
  · obtain rfl : l = [] := List.eq_nil_of_length_eq_zero hlen
    have hv : G = !s := by rw [hG]; cases s <;> rfl
    have HV := Lib.hid hv
    clear hG hv hlen hs
    go_enter Tryd.func40, Tryd.ntmps40
    go_wp2_with fail
    go_ret
    exact ⟨by rw [HV.out]; rfl, hbw⟩
  · have hne : l ≠ [] := fun e => by rw [e] at hlen; simp at hlen; omega
    rw [vld_last hs.lim hne, hlen] at hG
    obtain ⟨b, o, rfl, hc⟩ := (hs.below hbw).cells h0
    have hck := hc (n - 1) (by omega)
    have hn0 : ((n : Int) == 0) = false := by simp; omega
    have hi : (0 : Int) ≤ (n : Int) - 1 := by omega
    have hi2 : (n : Int) - 1 < n := by omega
    have hi3 : ((n : Int) - 1).toNat = n - 1 := by omega
    have hw1 : IntKind.i64.wrap ((n : Int) - 1) = (n : Int) - 1 := by simp [IntKind.wrap, IntKind.bits, IntKind.signed]; omega
    by_cases hd : N.dg l (n - 1) = 0
    · have ht : ((N.dg l (n - 1) : Int) != 0) = false := by simp [hd]
      have HG : Hid (G = false) := Lib.hid (by rw [hG]; simp [hd])
      clear hG hc hd
      go_enter Tryd.func40, Tryd.ntmps40
      go_wp2_with fail
      go_ret
      exact ⟨by rw [HG.out]; rfl, hbw⟩
    · have ht : ((N.dg l (n - 1) : Int) != 0) = true := by simpa using hd
      have ht2 : ((N.dg l (n - 1) : Int) == 0) = false := by simpa using hd
      have HG : Hid (G = true) := Lib.hid (by rw [hG]; simp [hd])
      clear hG hc hd
      go_enter Tryd.func40, Tryd.ntmps40
      go_wp2_with fail
      go_ret
      exact ⟨by rw [HG.out]; rfl, hbw⟩
/-- A number's int64, and whether it has room. -/
def i64b (z : Int) : Bool := decide (-9223372036854775808 ≤ z) && decide (z < 9223372036854775808)
def i64v (z : Int) : Int := if i64b z then z else 0
theorem i64_in {z : Int} (h : -9223372036854775808 ≤ z ∧ z < 9223372036854775808) : i64b z = true ∧ i64v z = z := by
  have h1 : i64b z = true := by unfold i64b; rw [decide_eq_true h.1, decide_eq_true h.2]; rfl
  exact ⟨h1, by unfold i64v; rw [h1]; rfl⟩
theorem i64_out {z : Int} (h : ¬ (-9223372036854775808 ≤ z ∧ z < 9223372036854775808)) : i64b z = false ∧ i64v z = 0 := by
  have h1 : i64b z = false := by
    unfold i64b
    by_cases h2 : -9223372036854775808 ≤ z
    · rw [decide_eq_true h2, decide_eq_false (by omega)]; rfl
    · rw [decide_eq_false h2]; rfl
  exact ⟨h1, by unfold i64v; rw [h1]; rfl⟩

theorem or_hi (a x : Nat) (ha : a < 4294967296) (hx : x < 4294967296) : bits BinOp.or IntKind.u64 (a : Int) ((x : Int) * 4294967296) = ((a + 4294967296 * x : Nat) : Int) := by
  have h := bits_or_u64_nat a (x * 4294967296) (by omega) (by omega)
  have h2 := Nat.shiftLeft_add_eq_or_of_lt (i := 32) (b := a) (by simpa using ha) x
  rw [Nat.shiftLeft_eq, Nat.or_comm] at h2
  have h3 : a ||| x * 4294967296 = a + 4294967296 * x := by
    have : x * 2 ^ 32 = x * 4294967296 := by simp
    rw [this] at h2
    rw [← h2, Nat.mul_comm x 4294967296, Nat.add_comm]
  rw [h3] at h
  rw [← h]
  congr 1
theorem wrap64_hi (U : Nat) (h1 : 9223372036854775808 ≤ U) (h2 : U < 18446744073709551616) : wrap64 (U : Int) = (U : Int) - 18446744073709551616 := by unfold wrap64; omega
theorem wrap64_top : wrap64 9223372036854775808 = -9223372036854775808 := by unfold wrap64; omega
theorem wrap64_neg : wrap64 (-wrap64 9223372036854775808) = -9223372036854775808 := by rw [wrap64_top]; unfold wrap64; omega
theorem top_eq : wrap64 9223372036854775808 = -((9223372036854775808 : Nat) : Int) := by rw [wrap64_top]; rfl
theorem hi_neg (U : Nat) (h2 : U < 18446744073709551616) : decide (0 ≤ (U : Int) - 18446744073709551616) = false := decide_eq_false (by omega)
theorem or_zero (x : Nat) (hx : x < 4294967296) : bits BinOp.or IntKind.u64 0 (x : Int) = (x : Int) := by
  have h := bits_or_u64_nat 0 x (by omega) (by omega)
  rw [Nat.zero_or] at h
  exact h
set_option maxRecDepth 100000 in
set_option maxHeartbeats 4000000 in
theorem int64_i {w : World} {v : Value} {K : Nat} {z : Int} (h : IV w v K z) (hK : K ≤ 17592186044416) :
    Calls Tryd.prog 38 #[v] w fun e w' => e = .returned (.tuple #[.int .i64 (i64v z), .bool (i64b z)]) ∧ Below w.heap.size w w' := by
  obtain ⟨V, hV⟩ : ∃ V, V = i64v z := ⟨_, rfl⟩
  obtain ⟨β, hβ⟩ : ∃ β, β = i64b z := ⟨_, rfl⟩
  rw [← hV, ← hβ]
  have EV := Lib.hid hV
  have EB := Lib.hid hβ
  clear hV hβ
  obtain ⟨s, x, ⟨sl, rfl, hm⟩, hz⟩ := h
  obtain ⟨A0, n0, k0, rfl⟩ := hm.slice
  have HZ := Lib.hid hz
  clear hz
  obtain ⟨W, hW, p0, hbw⟩ : ∃ W : World, W = w.alloc (.cells #[.bool s, .slice A0 n0 k0] 24) ∧ Pair W w.heap.size 24 (.bool s) (.slice A0 n0 k0) ∧ Below w.heap.size w W := ⟨_, rfl, Pair.new _ _ _ _, below_alloc1 _ _⟩
  have HW := Lib.hid hW
  clear hW
  go_enter Tryd.func38, Tryd.ntmps38
  go_wp2_with fail
  rw [← HW.out]
  refine (norm_i (z := z) (K := K) ⟨s, x, ⟨_, rfl, hm.below hbw⟩, HZ.out⟩ (by omega)).mono ?_
  rintro e w1 ⟨u, rfl, hu, hb1⟩
  obtain ⟨d, A, n, c, rfl, HD, hg⟩ := hu.form
  replace p0 := p0.below hb1
  replace hbw := below_on hbw hb1
  obtain ⟨f0, f1, c0, c1⟩ := p0.facts
  clear hu hb1 HZ hm HW
  go_upto_region 2 with (fail)
  obtain ⟨W2, hW2, q0, hg2, hbw2⟩ : ∃ W2 : World, W2 = (w1.setCell ⟨w.heap.size, 0, none⟩ (.bool d)).setCell ⟨w.heap.size, 1, none⟩ (.slice A n c) ∧ Pair W2 w.heap.size 24 (.bool d) (.slice A n c) ∧ Bag W2 (.slice A n c) K z.natAbs ∧ Below w.heap.size w W2 :=
    ⟨_, rfl, p0.set _ _, hg.pair p0 _ _, below_pair hbw (Nat.le_refl _) _ _⟩
  rw [← hW2]
  clear hW2 p0 hg hbw f0 f1 c0 c1
  obtain ⟨_, _, c0, c1⟩ := q0.facts
  have hlen := hg2.len
  obtain ⟨l, hl⟩ : ∃ l, l = N.ofN z.natAbs := ⟨_, rfl⟩
  have hnv : N.nv l = z.natAbs := by rw [hl]; exact N.nv_ofN _
  obtain ⟨A', n', c', e, hp, hs, hn⟩ := hg2
  injection e with e1 e2 e3
  subst e1; subst e2; subst e3
  rw [← hl] at hs hlen
  have hbare : N.Bare l := by rw [hl]; exact N.bare_ofN _
  have HL := Lib.hid hl
  clear hl q0
  rcases Nat.lt_or_ge 2 n with h2 | h2
  · have hbig : 18446744073709551616 ≤ z.natAbs := by
      have h3 := N.nv_ge hbare (fun e => by rw [e] at hlen; simp at hlen; omega)
      rw [hnv, ← hlen] at h3
      have h4 : 4294967296 ^ 2 ≤ 4294967296 ^ (n - 1) := Nat.pow_le_pow_right (by omega) (by omega)
      omega
    obtain ⟨e1, e2⟩ := i64_out (z := z) (by omega)
    have E1 := Lib.hid e1
    have E2 := Lib.hid e2
    have hgt : (n : Int) > 2 := by omega
    clear e1 e2 hbig hs hbare hnv
    go_wp2_with fail
    go_ret2
    exact ⟨by rw [EV.out, EB.out, E1.out, E2.out]; rfl, hbw2⟩
  · have hU : z.natAbs < 18446744073709551616 := by
      have h3 := N.nv_lt hs.lim
      rw [hnv, ← hlen] at h3
      have h4 : 4294967296 ^ n ≤ 4294967296 ^ 2 := Nat.pow_le_pow_right (by omega) h2
      omega
    have hngt : ¬ (n : Int) > 2 := by omega
    have HNV := Lib.hid hnv
    have HLEN := Lib.hid hlen
    clear hnv hbare hlen
    go_wp2_with fail
    go_loopg [4, 17] n (fun gk v4 v17 wr => ∃ k : Nat, gk + k = n ∧ v17 = .int .i64 (k : Nat) ∧ v4 = .int .u64 (N.nv (l.take k) : Nat) ∧ W2 = wr)
    case atStart => exact ⟨0, rfl, rfl, rfl, rfl⟩
    case round =>
      obtain ⟨k, hk, rfl, rfl, rfl⟩ := hrel
      by_cases hkn : k < n
      · obtain ⟨b, o, rfl, hc⟩ := hs.cells (by omega)
        have hck := hc k hkn
        have hx := N.dg_lt hs.lim k
        have hts := N.nv_take_succ' l k
        have HC := Lib.hid hc
        clear hc
        rcases (show k = 0 ∨ k = 1 by omega) with rfl | rfl
        · rw [Nat.add_zero] at hck
          have h0 : N.nv (l.take 0) = 0 := rfl
          rw [h0] at hts ⊢
          have hor := or_zero (N.dg l 0) hx
          have HTS := Lib.hid hts
          clear hts h0
          go_wp2_with fail
          go_roundg (gk - 1)
          case measure => omega
          case rel => exact ⟨1, by omega, by go_num, by rw [HTS.out]; go_num, rfl⟩
        · have h1 : N.nv (l.take 1) < 4294967296 := by
            have := N.nv_lt (hs.lim.take 1)
            rw [List.length_take] at this
            have h5 : min 1 l.length ≤ 1 := Nat.min_le_left _ _
            have h6 : 4294967296 ^ (min 1 l.length) ≤ 4294967296 ^ 1 := Nat.pow_le_pow_right (by omega) h5
            omega
          generalize N.nv (l.take 1) = a at *
          have hor := or_hi a (N.dg l 1) h1 hx
          have HTS := Lib.hid hts
          clear hts
          go_wp2_with fail
          go_roundg (gk - 1)
          case measure => omega
          case rel => exact ⟨2, by omega, by go_num, by rw [HTS.out]; go_num, rfl⟩
      · obtain rfl : k = n := by omega
        have hU2 : N.nv (l.take k) = z.natAbs := by rw [List.take_of_length_le (by rw [← HLEN.out]; exact Nat.le_refl _), HNV.out]
        rw [hU2]
        obtain ⟨U, hUU⟩ : ∃ U, U = z.natAbs := ⟨_, rfl⟩
        rw [← hUU] at hU ⊢
        have hzs : z = sgn d U := by rw [hUU, HD.out, sgn_abs]
        have HZS := Lib.hid hzs
        clear hU2 hUU hzs hs
        cases d
        · rcases Nat.lt_or_ge U 9223372036854775808 with h3 | h3
          · have hz := HZS.out
            rw [sgn_false] at hz
            obtain ⟨e1, e2⟩ := i64_in (z := z) (by omega)
            rw [← EB.out] at e1
            rw [← EV.out, hz] at e2
            have E1 := Lib.hid e1
            have E2 := Lib.hid e2
            clear e1 e2 hz
            go_wp2_with fail
            go_ret2
            exact ⟨by rw [E1.out, E2.out]; rfl, hbw2⟩
          · have hz := HZS.out
            rw [sgn_false] at hz
            obtain ⟨e1, e2⟩ := i64_out (z := z) (by omega)
            rw [← EB.out] at e1
            rw [← EV.out] at e2
            have E1 := Lib.hid e1
            have E2 := Lib.hid e2
            have hw := wrap64_hi U h3 hU
            obtain ⟨Y, hY⟩ : ∃ Y, Y = wrap64 (U : Int) := ⟨_, rfl⟩
            have hwn : decide (0 ≤ Y) = false := by rw [hY, hw]; exact hi_neg U hU
            have hwn2 : ¬ (0 ≤ Y) := of_decide_eq_false hwn
            have hY2 := hY.symm
            clear hw hY
            clear e1 e2 hz
            go_wp2_with fail
            go_ret2
            exact ⟨by rw [E1.out, E2.out]; rfl, hbw2⟩
        · rcases Nat.lt_or_ge 9223372036854775808 U with h3 | h3
          · have hz := HZS.out
            rw [sgn_true] at hz
            obtain ⟨e1, e2⟩ := i64_out (z := z) (by omega)
            rw [← EB.out] at e1
            rw [← EV.out] at e2
            have E1 := Lib.hid e1
            have E2 := Lib.hid e2
            clear e1 e2 hz
            go_wp2_with fail
            go_ret2
            exact ⟨by rw [E1.out, E2.out]; rfl, hbw2⟩
          · rcases Nat.lt_or_ge U 9223372036854775808 with h4 | h4
            · have hz := HZS.out
              rw [sgn_true] at hz
              obtain ⟨e1, e2⟩ := i64_in (z := z) (by omega)
              rw [← EB.out] at e1
              rw [← EV.out, hz] at e2
              have E1 := Lib.hid e1
              have E2 := Lib.hid e2
              clear e1 e2 hz
              go_wp2_with fail
              go_ret2
              exact ⟨by rw [E1.out, E2.out]; rfl, hbw2⟩
            · obtain rfl : U = 9223372036854775808 := by omega
              have hz := HZS.out
              rw [sgn_true] at hz
              obtain ⟨e1, e2⟩ := i64_in (z := z) (by omega)
              rw [← EB.out] at e1
              rw [← EV.out, hz] at e2
              have E1 := Lib.hid e1
              have E2 := Lib.hid e2
              clear e1 e2 hz
              have hw1 := wrap64_top
              have hw3 := wrap64_neg
              rw [hw1] at hw3
              go_wp2_with fail
              go_ret2
              exact ⟨by rw [E1.out, E2.out]; exact congrArg (fun q => Ending.returned (Value.tuple #[.int .i64 q, .bool true])) top_eq, hbw2⟩
end Go.Proofs.YtiidghfkdjefgaaDoor

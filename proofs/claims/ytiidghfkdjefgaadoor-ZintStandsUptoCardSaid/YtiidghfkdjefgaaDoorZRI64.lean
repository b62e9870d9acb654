/-
  riddleref02.Int64: contract.
-/
import Derived.Test.YtiidghfkdjefgaaDoorZI64
namespace Go.Proofs.YtiidghfkdjefgaaDoor
open Go.RowKit

theorem or_lo (u x : Nat) (hu : u < 4294967296) (hx : x < 4294967296) : bits BinOp.or IntKind.u64 ((u : Int) * 4294967296) (x : Int) = ((x + 4294967296 * u : Nat) : Int) := by
  have h := bits_or_u64_nat (u * 4294967296) x (by omega) (by omega)
  have h2 := Nat.shiftLeft_add_eq_or_of_lt (i := 32) (b := x) (by simpa using hx) u
  rw [Nat.shiftLeft_eq] at h2
  have h3 : u * 4294967296 ||| x = x + 4294967296 * u := by
    have : u * 2 ^ 32 = u * 4294967296 := by simp
    rw [this] at h2
    rw [← h2, Nat.mul_comm u 4294967296, Nat.add_comm]
  rw [h3] at h
  rw [← h]
  congr 1
theorem nv_drop' (l : List Nat) (k : Nat) : N.nv (l.drop k) = N.dg l k + 4294967296 * N.nv (l.drop (k + 1)) := by
  rcases Nat.lt_or_ge k l.length with h | h
  · exact N.nv_drop l k h
  · rw [List.drop_eq_nil_of_le h, List.drop_eq_nil_of_le (by omega), N.dg_ge l k h]
    rfl
set_option maxRecDepth 100000 in
set_option maxHeartbeats 4000000 in
theorem int64_r {w : World} {v : Value} {K : Nat} {z : Int} (h : IV w v K z) (hK : K ≤ 17592186044416) :
    Calls Tryd.prog 41 #[v] w fun e w' => e = .returned (.tuple #[.int .i64 (i64v z), .bool (i64b z)]) ∧ Below w.heap.size w w' := by
  obtain ⟨V, hV⟩ : ∃ V, V = i64v z := ⟨_, rfl⟩
  obtain ⟨β, hβ⟩ : ∃ β, β = i64b z := ⟨_, rfl⟩
  rw [← hV, ← hβ]
  have EV := Lib.hid hV
  have EB := Lib.hid hβ
  clear hV hβ
  obtain ⟨s, x, ⟨sl, rfl, hm⟩, hz⟩ := h
  obtain ⟨A0, n0, k0, rfl⟩ := hm.slice
  have HZ := Lib.hid hz
  clear hz
  have hbw := below_alloc1 w (.cells #[.bool s, .slice A0 n0 k0] 24)
  go_enter Tryd.func41, Tryd.ntmps41
  go_wp2_with fail
  refine (norm_r (z := z) (K := K) ⟨s, x, ⟨_, rfl, hm.below hbw⟩, HZ.out⟩ (by omega)).mono ?_
  rintro e w1 ⟨u, rfl, hu, hb1⟩
  obtain ⟨d, A, n, c, rfl, HD, hg⟩ := hu.form
  replace hbw := below_on hbw hb1
  clear hu hb1 HZ hm
  go_upto_region 2 with (fail)
  obtain ⟨W2, hW2, q0, hb2⟩ : ∃ W2 : World, W2 = w1.alloc (.cells #[.bool d, .slice A n c] 24) ∧ Pair W2 w1.heap.size 24 (.bool d) (.slice A n c) ∧ Below w1.heap.size w1 W2 := ⟨_, rfl, Pair.new _ _ _ _, below_alloc1 _ _⟩
  rw [← hW2]
  have hbw2 := below_on hbw hb2
  have hg2 := hg.below hb2
  clear hW2 hg hbw hb2
  obtain ⟨_, _, c0, c1⟩ := q0.facts
  have hlen := hg2.len
  obtain ⟨l, hl⟩ : ∃ l, l = N.ofN z.natAbs := ⟨_, rfl⟩
  have hnv : N.nv l = z.natAbs := by rw [hl]; exact N.nv_ofN _
  obtain ⟨A', n', c', e, hp, hs, hn⟩ := hg2
  injection e with e1 e2 e3
  subst e1; subst e2; subst e3
  rw [← hl] at hs hlen
  have hbare : N.Bare l := by rw [hl]; exact N.bare_ofN _
  have HL := Lib.hid hl
  clear hl q0
  rcases Nat.lt_or_ge 2 n with h2 | h2
  · have hbig : 18446744073709551616 ≤ z.natAbs := by
      have h3 := N.nv_ge hbare (fun e => by rw [e] at hlen; simp at hlen; omega)
      rw [hnv, ← hlen] at h3
      have h4 : 4294967296 ^ 2 ≤ 4294967296 ^ (n - 1) := Nat.pow_le_pow_right (by omega) (by omega)
      omega
    obtain ⟨e1, e2⟩ := i64_out (z := z) (by omega)
    have E1 := Lib.hid e1
    have E2 := Lib.hid e2
    have hgt : (n : Int) > 2 := by omega
    clear e1 e2 hbig hs hbare hnv
    go_wp2_with fail
    go_ret2
    exact ⟨by rw [EV.out, EB.out, E1.out, E2.out]; rfl, hbw2⟩
  · have hU : z.natAbs < 18446744073709551616 := by
      have h3 := N.nv_lt hs.lim
      rw [hnv, ← hlen] at h3
      have h4 : 4294967296 ^ n ≤ 4294967296 ^ 2 := Nat.pow_le_pow_right (by omega) h2
      omega
    have hngt : ¬ (n : Int) > 2 := by omega
    have HNV := Lib.hid hnv
    have HLEN := Lib.hid hlen
    clear hnv hbare hlen
    go_wp2_with fail
    go_loopg [5, 6] n (fun gk v5 v6 wr => gk ≤ n ∧ v6 = .int .i64 ((gk : Nat) - 1) ∧ v5 = .int .u64 (N.nv (l.drop gk) : Nat) ∧ W2 = wr)
    case atStart =>
      refine ⟨Nat.le_refl _, rfl, ?_, rfl⟩
      rw [List.drop_eq_nil_of_le (by rw [← HLEN.out]; exact Nat.le_refl _)]; rfl
    case round =>
      obtain ⟨hk, rfl, rfl, rfl⟩ := hrel
      have hdr := nv_drop' l (gk - 1)
      have hx := N.dg_lt hs.lim (gk - 1)
      rcases (show gk = 0 ∨ gk = 1 ∨ gk = 2 by omega) with rfl | rfl | rfl
      · have hU2 : N.nv (l.drop 0) = z.natAbs := HNV.out
        rw [hU2]
        obtain ⟨U, hUU⟩ : ∃ U, U = z.natAbs := ⟨_, rfl⟩
        rw [← hUU] at hU ⊢
        have hzs : z = sgn d U := by rw [hUU, HD.out, sgn_abs]
        have hdz := HD.out
        have HZS := Lib.hid hzs
        clear hU2 hzs hs hdr hx
        cases d
        · clear hdz hUU
          rcases Nat.lt_or_ge U 9223372036854775808 with h3 | h3
          · have hz := HZS.out
            rw [sgn_false] at hz
            obtain ⟨e1, e2⟩ := i64_in (z := z) (by omega)
            rw [← EB.out] at e1
            rw [← EV.out, hz] at e2
            have E1 := Lib.hid e1
            have E2 := Lib.hid e2
            have t1 : decide ((9223372036854775808 : Int) ≤ U) = false := decide_eq_false (by omega)
            have t2 : (U : Int) < 9223372036854775808 := by omega
            clear e1 e2 hz h3
            go_wp2_with fail
            go_ret2
            exact ⟨by rw [E1.out, E2.out]; rfl, hbw2⟩
          · have hz := HZS.out
            rw [sgn_false] at hz
            obtain ⟨e1, e2⟩ := i64_out (z := z) (by omega)
            rw [← EB.out] at e1
            rw [← EV.out] at e2
            have E1 := Lib.hid e1
            have E2 := Lib.hid e2
            have t1 : decide ((9223372036854775808 : Int) ≤ U) = true := decide_eq_true (by omega)
            have t2 : (9223372036854775808 : Int) ≤ U := by omega
            clear e1 e2 hz h3
            go_wp2_with fail
            go_ret2
            exact ⟨by rw [E1.out, E2.out]; rfl, hbw2⟩
        · have hU1 : 1 ≤ U := by
            have := of_decide_eq_true hdz.symm
            omega
          clear hdz hUU
          rcases Nat.lt_or_ge 9223372036854775808 U with h3 | h3
          · have hz := HZS.out
            rw [sgn_true] at hz
            obtain ⟨e1, e2⟩ := i64_out (z := z) (by omega)
            rw [← EB.out] at e1
            rw [← EV.out] at e2
            have E1 := Lib.hid e1
            have E2 := Lib.hid e2
            have t1 : decide ((9223372036854775808 : Int) < U) = true := decide_eq_true (by omega)
            have t2 : (9223372036854775808 : Int) < U := by omega
            clear e1 e2 hz h3
            go_wp2_with fail
            go_ret2
            exact ⟨by rw [E1.out, E2.out]; rfl, hbw2⟩
          · have hz := HZS.out
            rw [sgn_true] at hz
            obtain ⟨e1, e2⟩ := i64_in (z := z) (by omega)
            rw [← EB.out] at e1
            rw [← EV.out, hz] at e2
            have E1 := Lib.hid e1
            have E2 := Lib.hid e2
            clear e1 e2 hz
            go_wp2_with fail
            go_ret2
            refine ⟨?_, hbw2⟩
            rw [E1.out, E2.out]
            refine congrArg (fun q => Ending.returned (Value.tuple #[.int .i64 q, .bool true])) ?_
            show _ = -(U : Int)
            omega
      · obtain ⟨b, o, rfl, hc⟩ := hs.cells (by omega)
        have hck := hc 0 (by omega)
        rw [Nat.add_zero] at hck
        have hu : N.nv (l.drop 1) < 4294967296 := by
          have := N.nv_lt (hs.lim.drop 1)
          rw [List.length_drop, ← HLEN.out] at this
          have h6 : 4294967296 ^ (n - 1) ≤ 4294967296 ^ 1 := Nat.pow_le_pow_right (by omega) (by omega)
          omega
        have hdr' : N.nv (l.drop 0) = N.dg l 0 + 4294967296 * N.nv (l.drop 1) := hdr
        have hx' : N.dg l 0 < 4294967296 := hx
        generalize N.nv (l.drop 1) = a at *
        have hor := or_lo a (N.dg l 0) hu hx'
        have HDR := Lib.hid hdr'
        clear hdr hdr' hx hc
        go_wp2_with fail
        go_roundg 0
        case measure => omega
        case rel => exact ⟨by omega, by go_num, by rw [HDR.out]; go_num, rfl⟩
      · obtain ⟨b, o, rfl, hc⟩ := hs.cells (by omega)
        have hck := hc 1 (by omega)
        have hu : N.nv (l.drop 2) = 0 := by rw [List.drop_eq_nil_of_le (by rw [← HLEN.out]; omega)]; rfl
        have hdr' : N.nv (l.drop 1) = N.dg l 1 + 4294967296 * N.nv (l.drop 2) := hdr
        have hx' : N.dg l 1 < 4294967296 := hx
        rw [hu] at hdr' ⊢
        have hor := or_zero (N.dg l 1) hx'
        have HDR := Lib.hid hdr'
        clear hdr hdr' hx hc hu
        go_wp2_with fail
        go_roundg 1
        case measure => omega
        case rel => exact ⟨by omega, by go_num, by rw [HDR.out]; go_num, rfl⟩
end Go.Proofs.YtiidghfkdjefgaaDoor

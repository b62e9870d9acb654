/-
  nat.short, nat.left: contracts.
-/
import Derived.Test.YtiidghfkdjefgaaDoorMul
namespace Go.Proofs.YtiidghfkdjefgaaDoor
open Go.RowKit

theorem or_join (r x : Nat) (hr : r < 4294967296) (hx : x < 4294967296) : bits .or .u64 ((r : Int) * 4294967296) (x : Int) = ((r * 4294967296 + x : Nat) : Int) := by
  rw [show (r : Int) * 4294967296 = ((r * 4294967296 : Nat) : Int) from by omega, u64_or_nat _ _ (by omega) (by omega), nat_join 32 _ _ (by simp only [Nat.reducePow]; omega) (by simp only [Nat.reducePow]; omega)]
theorem wrap_shl (x s : Nat) (h : x * 2 ^ s < 9223372036854775808) : IntKind.u64.wrap ((x : Int) * 2 ^ s) = ((x * 2 ^ s : Nat) : Int) := by
  rw [IntKind.wrap_u64]
  have e : (x : Int) * 2 ^ s = ((x * 2 ^ s : Nat) : Int) := by rw [Int.natCast_mul, Int.natCast_pow]; rfl
  rw [e]; omega
theorem quo_lt {r x b : Nat} (hr : r < b) (hx : x < 4294967296) : (r * 4294967296 + x) / b < 4294967296 := by
  rw [Nat.div_lt_iff_lt_mul (by omega)]
  have h3 : (r + 1) * 4294967296 ≤ b * 4294967296 := Nat.mul_le_mul_right _ hr
  omega

set_option maxHeartbeats 800000 in
theorem short_any (w : World) (A : Option Addr) (n c : Nat) (a : List Nat) (b : Nat) (ha : Sl w A n c a) (hn : n ≤ 35184372088832) (hb0 : 0 < b) (hb : b < 4294967296) :
    Calls Tryd.prog 80 #[.slice A n c, .int .u32 b] w fun e w' => ∃ g n' c', e = .returned (.tuple #[.slice (some ⟨g, 0, none⟩) n' c', .int .u32 (N.nv a % b : Nat)]) ∧ Own w' w.heap.size g n' c' (N.ofN (N.nv a / b)) ∧ Below w.heap.size w w' := by
  obtain ⟨i0, hi, hz0, hz1, hz2⟩ := info_parts info_u32
  have hlen := ha.len
  have hlim := ha.lim
  go_enter Tryd.func80, Tryd.ntmps80
  have HL := Lib.hid hlen
  clear hlen
  go_wp2_with (at_make; refine wpList_make_lim _ rfl (.tmp 10) (.tmp 10) 22 rfl i0 Tryd.underlying22 hi hz0 hz1 hz2 .i64 .i64 _ _ n rfl rfl (by omega) (by omega) (by omega) ?_; intro w1 ho1 hb1)
  go_loopw [7, 8] (fun v7 v8 wr => Below w.heap.size w wr ∧ ((v8 = .int .i64 (-1) ∧ v7 = .int .u64 (N.nv a % b : Nat) ∧ Own wr w.heap.size w.heap.size n n (N.divQ b a)) ∨
      ∃ j : Nat, j < n ∧ v8 = .int .i64 j ∧ v7 = .int .u64 (N.nv (a.drop (j + 1)) % b : Nat) ∧ Own wr w.heap.size w.heap.size n n (N.divS b a (j + 1)))) (fun _ v8 _ => (intOf v8 + 1).toNat)
  case atStart =>
    refine ⟨by assumption, ?_⟩
    have ho := ‹Own _ w.heap.size w.heap.size n n (List.replicate n 0)›
    by_cases h0 : n = 0
    · subst h0
      have : a = [] := List.eq_nil_of_length_eq_zero HL.out
      subst this
      exact .inl ⟨rfl, rfl, ho⟩
    · refine .inr ⟨n - 1, by omega, by go_num, ?_, ?_⟩
      · rw [show n - 1 + 1 = a.length from by have := HL.out; omega, List.drop_length]; rfl
      · rw [show n - 1 + 1 = a.length from by have := HL.out; omega, N.divS_none, HL.out]; exact ho
  case round =>
    obtain ⟨hbw, hrel⟩ := hrel
    rcases hrel with ⟨rfl, rfl, hown⟩ | ⟨j, hj, rfl, rfl, hown⟩
    · have hr := Nat.mod_lt (N.nv a) hb0
      go_wp2_with (go_at_call 81; refine (own_any _ _ _ _ _ hown.sl (by omega)).mono ?_; rintro e w5 ⟨g5, n5, c5, rfl, ho5, hb5⟩)
      go_ret2
      rw [N.divQ_nv hb0] at ho5
      exact ⟨g5, n5, c5, rfl, ho5.mono hbw.size, hbw.trans (hb5.mono hbw.size)⟩
    · have hr := Nat.mod_lt (N.nv (a.drop (j + 1))) hb0
      obtain ⟨bx, ox, rfl, hcx⟩ := (ha.below hbw).cells (by omega)
      have hc1 := hcx j hj
      have hx := N.dg_lt hlim j
      clear hcx
      have hc3 := hown.cell j hj
      have hf3 := hown.free j
      have hmod := N.divQ_mod b (N.dg a j) (a.drop (j + 1))
      have HM := Lib.hid hmod
      clear hmod
      have hstep := N.divS_step b a j (by have := HL.out; omega)
      have hds : a.drop j = N.dg a j :: a.drop (j + 1) := by rw [List.drop_eq_getElem_cons (by have := HL.out; omega), N.dg_get a j (by have := HL.out; omega)]
      have HS := Lib.hid hstep
      have HD := Lib.hid hds
      clear hstep hds
      generalize N.nv (a.drop (j + 1)) % b = r at *
      generalize N.dg a j = x at *
      have hor := or_join r x (by omega) hx
      have hql := quo_lt hr hx
      generalize r * 4294967296 + x = y at *
      have hq1 : (y : Int) / (b : Int) ≤ 4294967295 := by rw [← Int.natCast_ediv]; omega
      have hq0 : 0 ≤ (y : Int) / (b : Int) := by rw [← Int.natCast_ediv]; exact Int.natCast_nonneg _
      have hb1 : 1 ≤ (b : Int) := by omega
      go_wp2_with fail
      go_roundw
      case rel =>
        have hnew := hown.set' j (y / b) hql _ (Int.natCast_ediv y b).symm
        rw [HS.out] at hnew
        refine ⟨hbw.setCell (Nat.le_refl _) _, ?_⟩
        by_cases hj0 : j = 0
        · subst hj0
          refine .inl ⟨rfl, ?_, ?_⟩
          · have e := HM.out
            rw [← HD.out, List.drop_zero] at e
            rw [← e]; go_num
          · rw [← N.divS_all]; exact hnew
        · refine .inr ⟨j - 1, by omega, by go_num, ?_, ?_⟩
          · rw [show j - 1 + 1 = j from by omega]
            have e := HM.out
            rw [← HD.out] at e
            rw [← e]; go_num
          · rw [show j - 1 + 1 = j from by omega]; exact hnew
      case measure => simp [intOf]

set_option maxHeartbeats 800000 in
theorem left_any (w : World) (A : Option Addr) (n c : Nat) (a : List Nat) (s : Nat) (ha : Sl w A n c a) (hn : n ≤ 35184372088832) (hs : s < 32) :
    Calls Tryd.prog 83 #[.slice A n c, .int .u64 s] w fun e w' => ∃ g l, e = .returned (.slice (some ⟨g, 0, none⟩) (n + 1) (n + 1)) ∧ Own w' w.heap.size g (n + 1) (n + 1) l ∧ N.nv l = N.nv a * 2 ^ s ∧ Below w.heap.size w w' := by
  obtain ⟨i0, hi, hz0, hz1, hz2⟩ := info_parts info_u32
  have hlen := ha.len
  have hlim := ha.lim
  go_enter Tryd.func83, Tryd.ntmps83
  have HL := Lib.hid hlen
  clear hlen
  go_wp2_with (at_make; refine wpList_make_lim _ rfl (.tmp 11) (.tmp 11) 22 rfl i0 Tryd.underlying22 hi hz0 hz1 hz2 .i64 .i64 _ _ (n + 1) rfl rfl (by omega) (by omega) (by omega) ?_; intro w1 ho1 hb1)
  go_loopw [15] (fun v15 wr => ∃ i : Nat, i ≤ n ∧ v15 = .int .i64 i ∧ Below w.heap.size w wr ∧ Own wr w.heap.size w.heap.size (n + 1) (n + 1) (N.leftS a s i)) (fun v15 _ => n - (intOf v15).toNat)
  case atStart =>
    exact ⟨0, by omega, rfl, by assumption, by rw [N.leftS, HL.out]; assumption⟩
  case round =>
    obtain ⟨i, hil, rfl, hbw, hown⟩ := hrel
    by_cases hin : i < n
    · obtain ⟨bx, ox, rfl, hcx⟩ := (ha.below hbw).cells (by omega)
      have hc1 := hcx i hin
      have hx := N.dg_lt hlim i
      clear hcx
      have hc3 := hown.cell i (by omega)
      have hf3 := hown.free i
      have hc4 := hown.cell (i + 1) (by omega)
      have hf4 := hown.free (i + 1)
      obtain ⟨hL1, hL2, _⟩ := N.leftS_inv hlim s i hs (by have := HL.out; omega)
      have hhi := N.high_lt (N.dg a i) s hx
      have hp : 2 ^ s ≤ 2 ^ 31 := Nat.pow_le_pow_right (by omega) (by omega)
      have hy : N.dg a i * 2 ^ s < 9223372036854775808 := by
        have := Nat.mul_le_mul (show N.dg a i ≤ 4294967295 by omega) hp
        omega
      have hw := wrap_shl (N.dg a i) s hy
      have hd : N.dg (N.leftS a s i) i < 4294967296 := by omega
      have HSt := Lib.hid (show N.leftS a s (i + 1) = ((N.leftS a s i).set i (N.dg (N.leftS a s i) i ||| (N.dg a i * 2 ^ s % 4294967296))).set (i + 1) (N.dg a i * 2 ^ s / 4294967296) from rfl)
      clear hp
      generalize N.dg a i * 2 ^ s = y at *
      generalize N.dg (N.leftS a s i) i = dd at *
      have hor := u32_or_nat dd (y % 4294967296) hd (Nat.mod_lt _ (by omega))
      rw [Int.natCast_emod] at hor
      have hor' : bits .or .u32 (dd : Int) ((y : Int) % 4294967296) = ((dd ||| y % 4294967296 : Nat) : Int) := hor
      clear hor
      have hlt : (dd ||| y % 4294967296) < 4294967296 := by
        have := Nat.or_lt_two_pow (n := 32) (x := dd) (y := y % 4294967296) (by simpa using hd) (by have := Nat.mod_lt y (show 0 < 4294967296 by omega); simpa using this)
        simpa using this
      go_wp2_with fail
      go_roundw
      case rel =>
        have h1 := hown.set i _ hlt
        have h2 := h1.set' (i + 1) (y / 4294967296) (by omega) ((y : Int) / 4294967296) (by omega)
        rw [← HSt.out] at h2
        exact ⟨i + 1, by omega, by go_num, (hbw.setCell (Nat.le_refl _) _).setCell (Nat.le_refl _) _, h2⟩
      case measure => simp [intOf]; omega
    · obtain rfl : i = n := by omega
      go_wp2_with fail
      go_ret
      refine ⟨_, _, rfl, hown, ?_, hbw⟩
      rw [← HL.out, N.leftS_all hlim s hs]
end Go.Proofs.YtiidghfkdjefgaaDoor

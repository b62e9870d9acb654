/-
  nat.Bits: contract.
-/
import Derived.Test.YtchbamlfdknkgaaDoorVal
namespace Go.Proofs.YtchbamlfdknkgaaDoor
open Go.RowKit


/-- How many binary digits a number has. -/
def bitsN (n : Nat) : Nat := 32 * ((N.ofN n).length - 1) + Lib.bitLen (N.dg (N.ofN n) ((N.ofN n).length - 1))

set_option maxHeartbeats 400000 in
theorem bits_zero (w : World) (A : Option Addr) (n c : Nat) (a : List Nat) (ha : Sl w A n c a) (hn : n ≤ 9223372036854775807) (h0 : N.nv a = 0) :
    Calls Tryd.prog 48 #[.slice A n c] w fun e w' => e = .returned (.int .i64 0) ∧ w = w' := by
  have hlen : (N.ofN (N.nv a)).length = 0 := by rw [h0]; rfl
  go_enter Tryd.func48, Tryd.ntmps48
  have HL := Lib.hid hlen
  clear hlen h0
  go_wp2_with fail
  refine (bare_any _ A n c a ha hn).mono ?_
  rintro e w' ⟨rfl, rfl⟩
  rw [HL.out]
  go_wp2_with fail
  go_ret
  exact ⟨rfl, rfl⟩

set_option maxHeartbeats 400000 in
theorem bits_pos (w : World) (A : Option Addr) (n c : Nat) (a : List Nat) (ha : Sl w A n c a) (hn : n ≤ 281474976710656) (h0 : 0 < N.nv a) :
    Calls Tryd.prog 48 #[.slice A n c] w fun e w' => e = .returned (.int .i64 (bitsN (N.nv a))) ∧ w = w' := by
  have hA := ha.bare
  have hla := N.nv_len_le ha.lim
  rw [ha.len] at hla
  have hl0 : (N.ofN (N.nv a)).length ≠ 0 := fun h => by
    have := List.eq_nil_of_length_eq_zero h
    rw [N.ofN_eq_nil] at this; omega
  have hbb := N.bare_ofN (N.nv a)
  have hbn : bitsN (N.nv a) = 32 * ((N.ofN (N.nv a)).length - 1) + Lib.bitLen (N.dg (N.ofN (N.nv a)) ((N.ofN (N.nv a)).length - 1)) := rfl
  have HBN := Lib.hid hbn
  clear hbn
  go_enter Tryd.func48, Tryd.ntmps48
  go_wp2_with fail
  refine (bare_any _ A n c a ha (by omega)).mono ?_
  rintro e w' ⟨rfl, rfl⟩
  generalize N.ofN (N.nv a) = a' at *
  have t1 : ((a'.length : Int) == 0) = false := by simpa using hl0
  have hx0 : 0 < N.dg a' (a'.length - 1) := by
    rcases hbb with h | h
    · rw [h] at hl0; simp at hl0
    · omega
  have hx1 := N.dg_lt hA.lim (a'.length - 1)
  obtain ⟨s, hs0, hs, _, _⟩ := lz_facts _ hx0 hx1
  have HS := Lib.hid hs0
  clear hs0
  obtain ⟨ba, oa, rfl, hca⟩ := hA.cells (by omega)
  have hc1 := hca (a'.length - 1) (by omega)
  clear hca
  go_wp2_with fail
  refine (Go.Proofs.Tryd.bits_LeadingZeros32 (N.dg a' (a'.length - 1) : Nat) _ (by omega) (by omega)).mono ?_
  rintro e w1' ⟨rfl, rfl⟩
  rw [Int.toNat_natCast, HS.out]
  go_wp2_with fail
  go_ret
  refine ⟨ret_i ?_, rfl⟩
  have h1 := HBN.out
  have h2 := HS.out
  omega
/-- How many binary digits. -/
def bitsM (x : Nat) : Nat := if x = 0 then 0 else bitsN x
theorem bits_v {w : World} {a : Value} {K x : Nat} (ha : Val w a K x) (hK : K ≤ 281474976710656) :
    Calls Tryd.prog 48 #[a] w fun e w' => e = .returned (.int .i64 (bitsM x : Nat)) ∧ w = w' := by
  obtain ⟨A, n, c, l, rfl, hs, rfl, hn⟩ := ha
  unfold bitsM
  rcases Nat.eq_zero_or_pos (N.nv l) with h | h
  · rw [if_pos h]; exact bits_zero w A n c l hs (by omega) h
  · rw [if_neg (by omega)]; exact bits_pos w A n c l hs (by omega) h
theorem bitsM_zero : bitsM 0 = 0 := rfl
theorem bitsM_pos {x : Nat} (h : 0 < x) : 1 ≤ bitsM x ∧ 2 ^ (bitsM x - 1) ≤ x ∧ x < 2 ^ bitsM x := by
  have hb := N.bare_ofN x
  have hl0 : (N.ofN x).length ≠ 0 := fun e => by
    have := List.eq_nil_of_length_eq_zero e
    rw [N.ofN_eq_nil] at this; omega
  have hv := N.nv_take_succ (N.ofN x) ((N.ofN x).length - 1) (by omega)
  rw [show (N.ofN x).length - 1 + 1 = (N.ofN x).length from by omega, List.take_length, N.nv_ofN] at hv
  have hlt := N.nv_lt ((N.lim_ofN x).take ((N.ofN x).length - 1))
  rw [List.length_take, Nat.min_eq_left (by omega)] at hlt
  have hd := N.dg_lt (N.lim_ofN x) ((N.ofN x).length - 1)
  have hd0 : 0 < N.dg (N.ofN x) ((N.ofN x).length - 1) := by
    rcases hb with h1 | h1
    · rw [h1] at hl0; simp at hl0
    · omega
  unfold bitsM bitsN
  rw [if_neg (by omega)]
  generalize (N.ofN x).length - 1 = k at *
  generalize N.dg (N.ofN x) k = d at *
  obtain ⟨h2, h3, h4⟩ := Lib.bitLenAux_bounds 64 d (by omega) (by omega)
  change 1 ≤ Lib.bitLen d at h2
  change 2 ^ (Lib.bitLen d - 1) ≤ d at h3
  change d < 2 ^ Lib.bitLen d at h4
  generalize Lib.bitLen d = j at *
  have hp : (4294967296 : Nat) ^ k = 2 ^ (32 * k) := by rw [Nat.pow_mul]
  rw [hp] at hv hlt
  refine ⟨by omega, ?_, ?_⟩
  · rw [show 32 * k + j - 1 = 32 * k + (j - 1) from by omega, Nat.pow_add]
    have := Nat.mul_le_mul_left (2 ^ (32 * k)) h3
    omega
  · rw [Nat.pow_add]
    have := Nat.mul_le_mul_left (2 ^ (32 * k)) (show d + 1 ≤ 2 ^ j from h4)
    rw [Nat.mul_add] at this
    omega

end Go.Proofs.YtchbamlfdknkgaaDoor

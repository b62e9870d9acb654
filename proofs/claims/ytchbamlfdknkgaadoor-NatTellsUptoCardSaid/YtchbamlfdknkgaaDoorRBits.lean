/-
  riddleref01: Of, Bits: contracts.
-/
import Derived.Test.YtchbamlfdknkgaaDoorRSum
import Derived.Test.YtchbamlfdknkgaaDoorBits
namespace Go.Proofs.YtchbamlfdknkgaaDoor
open Go.RowKit

set_option maxRecDepth 100000 in
set_option maxHeartbeats 400000 in
theorem rof_v (w : World) (n : Nat) (hn : n < 18446744073709551616) :
    Calls Tryd.prog 47 #[.int .u64 n] w fun e w' => ∃ v, e = .returned v ∧ Fre w w' v 2 n ∧ Below w.heap.size w w' := by
  have hlim : N.Lim [n % 4294967296, n / 4294967296] := N.Lim.cons (Nat.mod_lt _ (by omega)) (N.Lim.cons (by omega) N.Lim.nil)
  have hs : Sl (w.alloc (.cells #[.int .u32 ((n : Int) % 4294967296), .int .u32 ((n : Int) / 4294967296)] 75)) (some ⟨w.heap.size, 0, none⟩) 2 2 [n % 4294967296, n / 4294967296] := by
    have h := Sl.lit w [n % 4294967296, n / 4294967296] hlim
    have e : (lv [n % 4294967296, n / 4294967296]).toArray = #[.int .u32 ((n : Int) % 4294967296), .int .u32 ((n : Int) / 4294967296)] := by simp [lv]
    rw [e] at h
    exact h
  have hv : N.nv [n % 4294967296, n / 4294967296] = n := by
    simp only [N.nv_cons, N.nv_nil]; omega
  have HV := Lib.hid hv
  clear hv
  have hb0 : Below w.heap.size w (w.alloc (.cells #[.int .u32 ((n : Int) % 4294967296), .int .u32 ((n : Int) / 4294967296)] 75)) := (Below.refl _ _).alloc (Nat.le_refl _) _
  go_enter Tryd.func47, Tryd.ntmps47
  go_wp2_with (go_at_call 36; refine (rtrim_any _ _ 2 2 _ hs (by omega)).mono ?_; rintro e w1 ⟨g1, n1, c1, rfl, ho1, hb1⟩)
  go_ret
  rw [HV.out] at ho1
  exact ⟨_, rfl, fre_of (ho1.mono hb0.size) (by simpa using hn), hb0.trans (hb1.mono hb0.size)⟩

theorem bitLen_of {t j : Nat} (h0 : 0 < t) (hl : t < 4294967296) (h1 : t < 2 ^ j) (h2 : 2 ^ (j - 1) ≤ t) (hj : 0 < j) : Lib.bitLen t = j := by
  obtain ⟨h3, h4, h5⟩ := Lib.bitLenAux_bounds 64 t (by omega) (by omega)
  change 1 ≤ Lib.bitLen t at h3
  change 2 ^ (Lib.bitLen t - 1) ≤ t at h4
  change t < 2 ^ Lib.bitLen t at h5
  have a1 := (Nat.pow_lt_pow_iff_right (a := 2) (by omega)).1 (Nat.lt_of_le_of_lt h4 h1)
  have a2 := (Nat.pow_lt_pow_iff_right (a := 2) (by omega)).1 (Nat.lt_of_le_of_lt h2 h5)
  omega

set_option maxRecDepth 100000 in
set_option maxHeartbeats 800000 in
theorem rbits_any (w : World) (A : Option Addr) (n c : Nat) (a : List Nat) (ha : Sl w A n c a) (hn : n ≤ 35184372088832) :
    Calls Tryd.prog 49 #[.slice A n c] w fun e w' => e = .returned (.int .i64 (bitsM (N.nv a) : Nat)) ∧ Below w.heap.size w w' := by
  have hla := N.nv_len_le ha.lim
  rw [ha.len] at hla
  obtain ⟨x, hx⟩ : ∃ x, N.nv a = x := ⟨_, rfl⟩
  rw [hx] at hla ⊢
  have HX := Lib.hid hx
  clear hx
  go_enter Tryd.func49, Tryd.ntmps49
  go_wp2_with fail
  refine (rtrim_any _ A n c a ha (by omega)).mono ?_
  rintro e w1 ⟨g, k, e1, rfl, ho, hb1⟩
  rw [HX.out] at ho
  have hlen := ho.len
  rcases Nat.eq_zero_or_pos x with h0 | h0
  · have hk0 : k = 0 := by rw [← hlen, h0]; rfl
    subst hk0
    have H0 := Lib.hid h0
    clear hlen h0
    go_wp2_with fail
    go_ret
    rw [H0.out]
    exact ⟨rfl, hb1⟩
  · have hk : 0 < k := by have := N.ofN_pos h0; omega
    have hkn : k ≤ n := by omega
    have hc := ho.cell (k - 1) (by omega)
    have hlt := N.dg_lt (N.lim_ofN x) (k - 1)
    have hd0 : 0 < N.dg (N.ofN x) (k - 1) := by
      rcases N.bare_ofN x with h1 | h1
      · rw [h1] at hlen; simp at hlen; omega
      · rw [hlen] at h1; omega
    have hM : bitsM x = 32 * (k - 1) + Lib.bitLen (N.dg (N.ofN x) (k - 1)) := by
      unfold bitsM bitsN
      rw [if_neg (by omega), hlen]
    obtain ⟨t, ht⟩ : ∃ t, N.dg (N.ofN x) (k - 1) = t := ⟨_, rfl⟩
    rw [ht] at hc hlt hd0 hM
    have HM := Lib.hid hM
    have tk : ((k : Int) == 0) = false := by
      have : ¬ (k : Int) = 0 := by omega
      simpa using this
    clear hlen ht hM ho h0
    go_wp2_with fail
    go_loopw [4, 5] (fun v4 v5 wr => ∃ j : Nat, j ≤ 32 ∧ v4 = .int .i64 ((32 * (k - 1) + j : Nat)) ∧ v5 = .int .u32 (t / 2 ^ j : Nat) ∧ (j = 0 ∨ 2 ^ (j - 1) ≤ t) ∧ w1 = wr) (fun v4 v5 _ => (intOf v5).toNat)
    case atStart => exact ⟨0, by omega, by go_num, by simp, .inl rfl, rfl⟩
    case round =>
      obtain ⟨j, hj, rfl, rfl, hlow, rfl⟩ := hrel
      by_cases hz : t / 2 ^ j = 0
      · have hlt2 : t < 2 ^ j := by
          rcases Nat.lt_or_ge t (2 ^ j) with h | h
          · exact h
          · have := Nat.div_pos h (Nat.pow_pos (by omega)); omega
        have hj0 : 0 < j := by
          rcases Nat.eq_zero_or_pos j with h | h
          · subst h; simp at hlt2; omega
          · exact h
        have hbl := bitLen_of hd0 hlt hlt2 (hlow.resolve_left (by omega)) hj0
        rw [hz]
        have HBL := Lib.hid hbl
        clear hz hlt2 hbl hlow
        go_wp2_with fail
        go_ret
        rw [HM.out, HBL.out]
        exact ⟨rfl, hb1⟩
      · have hge : 2 ^ j ≤ t := by
          rcases Nat.lt_or_ge t (2 ^ j) with h | h
          · exact absurd (Nat.div_eq_of_lt h) hz
          · exact h
        have hj32 : j < 32 := by
          rcases Nat.lt_or_ge j 32 with h | h
          · exact h
          · have := Nat.pow_le_pow_right (n := 2) (by omega) h; omega
        have hdd : t / 2 ^ (j + 1) = t / 2 ^ j / 2 := by rw [Nat.pow_succ, Nat.div_div_eq_div_mul]
        have hql : t / 2 ^ j < 4294967296 := Nat.lt_of_le_of_lt (Nat.div_le_self _ _) hlt
        obtain ⟨q, hq⟩ : ∃ q, t / 2 ^ j = q := ⟨_, rfl⟩
        rw [hq] at hz hdd hql ⊢
        have HDD := Lib.hid hdd
        have HGE := Lib.hid hge
        clear hq hdd hge hlow
        go_wp2_with fail
        go_roundw
        case rel => exact ⟨j + 1, by omega, by go_num, by rw [HDD.out]; go_num, .inr (by simpa using HGE.out), trivial⟩
        case measure => simp [intOf]; omega
theorem rbits_v {w : World} {a : Value} {K x : Nat} (ha : Val w a K x) (hK : K ≤ 35184372088832) :
    Calls Tryd.prog 49 #[a] w fun e w' => e = .returned (.int .i64 (bitsM x : Nat)) ∧ Below w.heap.size w w' := by
  obtain ⟨A, n, c, l, rfl, hs, rfl, hn⟩ := ha
  exact rbits_any w A n c l hs (by omega)
end Go.Proofs.YtchbamlfdknkgaaDoor

/-
  bits.Sub32, bits.Add32, nat.take, nat.Sub: contracts.
-/
import Derived.Test.YtiidghfkdjefgaaDoorCmp
namespace Go.Proofs.YtiidghfkdjefgaaDoor
open Go.RowKit

open N (dif bor)
theorem t31 (n : Nat) (h : n < 4294967296) : n.testBit 31 = decide (2147483648 ≤ n) := by
  rw [Nat.testBit_eq_decide_div_mod_eq]
  exact decide_eq_decide.2 (by simp only [Nat.reducePow]; omega)
theorem top31 (n : Nat) (h : n < 4294967296) : n / 2147483648 = (n.testBit 31).toNat := by
  rw [t31 n h]
  by_cases hn : 2147483648 ≤ n <;> simp [hn] <;> omega
theorem bor_bits (x y z : Nat) (hx : x < 4294967296) (hy : y < 4294967296) (hz : z ≤ 1) :
    (((4294967295 ^^^ x) &&& y) ||| ((4294967295 ^^^ (x ^^^ y)) &&& dif x y z)) / 2147483648 = bor x y z := by
  have hd : dif x y z < 4294967296 := Nat.mod_lt _ (by omega)
  have h1 : (4294967295 ^^^ x) < 2 ^ 32 := Nat.xor_lt_two_pow (by omega) (by omega)
  have h2 : (x ^^^ y) < 2 ^ 32 := Nat.xor_lt_two_pow (by omega) (by omega)
  have h3 : (4294967295 ^^^ (x ^^^ y)) < 2 ^ 32 := Nat.xor_lt_two_pow (by omega) h2
  have h4 : ((4294967295 ^^^ x) &&& y) < 2 ^ 32 := Nat.and_lt_two_pow _ (by omega)
  have h5 : ((4294967295 ^^^ (x ^^^ y)) &&& dif x y z) < 2 ^ 32 := Nat.and_lt_two_pow _ (by omega)
  rw [top31 _ (Nat.or_lt_two_pow h4 h5)]
  simp only [Nat.testBit_or, Nat.testBit_and, Nat.testBit_xor, t31 x hx, t31 y hy, t31 _ hd, t31 4294967295 (by omega)]
  unfold bor dif
  by_cases a : 2147483648 ≤ x <;> by_cases b : 2147483648 ≤ y <;> by_cases c : 2147483648 ≤ (x + 8589934592 - y - z) % 4294967296 <;> by_cases e : x < y + z <;> simp [a, b, c, e] <;> omega
theorem sub32_any (x y z : Nat) (w : World) (hx : x < 4294967296) (hy : y < 4294967296) (hz : z ≤ 1) :
    Calls Tryd.prog 97 #[.int .u32 x, .int .u32 y, .int .u32 z] w fun e w' => e = .returned (.tuple #[.int .u32 (dif x y z : Nat), .int .u32 (bor x y z : Nat)]) ∧ w = w' := by
  have hsg : IntKind.u32.signed = false := rfl
  go_enter Tryd.func97, Tryd.ntmps97
  go_wp2_with fail
  go_ret2
  have hd : dif x y z < 4294967296 := Nat.mod_lt _ (by omega)
  have e1 : (((x : Int) - y) % 4294967296 - z) % 4294967296 = (dif x y z : Nat) := by unfold dif; omega
  have e2 : ((x : Int) - y - z) % 4294967296 = (dif x y z : Nat) := by unfold dif; omega
  refine ⟨ret_2 e1 ?_, rfl⟩
  rw [e2, show IntKind.u32.max = ((4294967295 : Nat) : Int) from rfl, u32_xor_nat _ _ (by omega) hx, u32_xor_nat _ _ hx hy]
  have h1 : (4294967295 ^^^ x) < 2 ^ 32 := Nat.xor_lt_two_pow (by omega) (by omega)
  have h2 : (x ^^^ y) < 2 ^ 32 := Nat.xor_lt_two_pow (by omega) (by omega)
  have h3 : (4294967295 ^^^ (x ^^^ y)) < 2 ^ 32 := Nat.xor_lt_two_pow (by omega) h2
  have h4 : ((4294967295 ^^^ x) &&& y) < 2 ^ 32 := Nat.and_lt_two_pow _ (by omega)
  have h5 : ((4294967295 ^^^ (x ^^^ y)) &&& dif x y z) < 2 ^ 32 := Nat.and_lt_two_pow _ (by omega)
  rw [u32_xor_nat _ _ (by omega) h2, u32_and_nat _ _ h1 hy, u32_and_nat _ _ h3 hd, u32_or_nat _ _ h4 h5, ← bor_bits x y z hx hy hz]
  rfl
theorem add32_any (x y z : Nat) (w : World) (hx : x < 4294967296) (hy : y < 4294967296) (hz : z ≤ 1) :
    Calls Tryd.prog 98 #[.int .u32 x, .int .u32 y, .int .u32 z] w fun e w' => e = .returned (.tuple #[.int .u32 ((x + y + z) % 4294967296 : Nat), .int .u32 ((x + y + z) / 4294967296 : Nat)]) ∧ w = w' := by
  go_enter Tryd.func98, Tryd.ntmps98
  go_wp2_with fail
  go_ret2
  exact ⟨ret_2 (by omega) (by omega), rfl⟩

set_option maxHeartbeats 400000 in
theorem take_any (w : World) (base g n c : Nat) (a : List Nat) (B : Option Addr) (m d : Nat) (b : List Nat) (ha : Own w base g n c a) (hb : Sl w B m d b) (ho : 0 < m → Off B g) (hn : n ≤ 9223372036854775807) (hm : m ≤ 9223372036854775807) :
    Calls Tryd.prog 94 #[.slice (some ⟨g, 0, none⟩) n c, .slice B m d] w fun e w' => e = .returned (.tuple #[]) ∧ Own w' base g n c (N.subS a b n) ∧ w.grownBy w' (some g) := by
  have hla := ha.len
  have hlb := hb.len
  have hba := ha.lim
  have hbb := hb.lim
  go_enter Tryd.func94, Tryd.ntmps94
  have HLA := Lib.hid hla
  have HLB := Lib.hid hlb
  clear hla hlb
  go_wp2_with fail
  go_loopw [4, 9] (fun v4 v9 wr => ∃ k : Nat, k ≤ n ∧ v9 = .int .i64 k ∧ v4 = .int .u32 (N.subB a b k) ∧ Own wr base g n c (N.subS a b k) ∧ w.grownBy wr (some g)) (fun _ v9 _ => n - (intOf v9).toNat)
  case atStart => exact ⟨0, Nat.zero_le _, rfl, rfl, ha, World.grownBy.refl _ _⟩
  case round =>
    obtain ⟨k, hk, rfl, rfl, hown, hgr⟩ := hrel
    by_cases hkn : k < n
    · have hc1 := hown.cell k hkn
      rw [N.subS_dg_ge a b k k (Nat.le_refl _)] at hc1
      have hf1 := hown.free k
      have hx := N.dg_lt hba k
      have hz := N.subB_le a b k
      by_cases hkm : k < m
      · obtain ⟨bb, ob, rfl, hcb⟩ := (hb.grown hgr (ho (by omega))).cells (by omega)
        have hc2 := hcb k hkm
        have hy := N.dg_lt hbb k
        clear hcb
        go_wp2_with (go_at_call 97; refine (sub32_any (N.dg a k) (N.dg b k) (N.subB a b k) _ hx hy hz).mono ?_; rintro e w' ⟨rfl, rfl⟩)
        go_roundw
        case rel => exact ⟨k + 1, by omega, by go_num, rfl, hown.set k _ (N.dif_lt _ _ _), gb_set hgr k _⟩
        case measure => simp [intOf]; omega
      · have hd0 : N.dg b k = 0 := N.dg_ge b k (by have := HLB.out; omega)
        go_wp2_with (go_at_call 97; refine (sub32_any (N.dg a k) 0 (N.subB a b k) _ hx (by omega) hz).mono ?_; rintro e w' ⟨rfl, rfl⟩)
        go_roundw
        case rel =>
          have h1 := hown.set k (dif (N.dg a k) (N.dg b k) (N.subB a b k)) (N.dif_lt _ _ _)
          have h2 := gb_set hgr k (.int .u32 ((dif (N.dg a k) (N.dg b k) (N.subB a b k) : Nat) : Int))
          rw [hd0] at h1 h2
          refine ⟨k + 1, by omega, by go_num, ?_, ?_, h2⟩
          · simp only [N.subB, hd0]
          · simp only [N.subS, hd0]; exact h1
        case measure => simp [intOf]; omega
    · obtain rfl : k = n := by omega
      go_wp2_with fail
      go_end0
      exact ⟨rfl, hown, hgr⟩

set_option maxHeartbeats 400000 in
theorem sub_neg (w : World) (A : Option Addr) (n c : Nat) (a : List Nat) (B : Option Addr) (m d : Nat) (b : List Nat) (ha : Sl w A n c a) (hb : Sl w B m d b) (hn : n ≤ 9223372036854775807) (hm : m ≤ 9223372036854775807) (hlt : N.nv a < N.nv b) :
    Calls Tryd.prog 65 #[.slice A n c, .slice B m d] w fun e w' => e = .returned (.tuple #[.slice none 0 0, .int .i64 10]) ∧ Below w.heap.size w w' := by
  have hc := N.cmpN_lt hlt
  go_enter Tryd.func65, Tryd.ntmps65
  go_wp2_with (go_at_call 64; refine (cmp_any _ A n c a B m d b ha hb hn hm).mono ?_; rintro e w' ⟨rfl, hbl⟩)
  go_ret2
  exact ⟨rfl, by assumption⟩

set_option maxHeartbeats 400000 in
theorem sub_ok (w : World) (A : Option Addr) (n c : Nat) (a : List Nat) (B : Option Addr) (m d : Nat) (b : List Nat) (ha : Sl w A n c a) (hb : Sl w B m d b) (hn : n ≤ 35184372088832) (hm : m ≤ 35184372088832) (hle : N.nv b ≤ N.nv a) :
    Calls Tryd.prog 65 #[.slice A n c, .slice B m d] w fun e w' => ∃ g n' c', e = .returned (.tuple #[.slice (some ⟨g, 0, none⟩) n' c', .int .i64 0]) ∧ Own w' w.heap.size g n' c' (N.ofN (N.nv a - N.nv b)) ∧ Below w.heap.size w w' := by
  have hc : decide (N.cmpN (N.nv a) (N.nv b) < 0) = false := by
    rcases N.cmpN_cases (N.nv a) (N.nv b) with ⟨h, e⟩ | ⟨h, e⟩ | ⟨h, e⟩
    · omega
    · rw [e]; rfl
    · rw [e]; rfl
  have hla := N.nv_len_le ha.lim
  rw [ha.len] at hla
  have hlb := N.nv_len_le hb.lim
  rw [hb.len] at hlb
  have hlab := N.ofN_length_mono hle
  go_enter Tryd.func65, Tryd.ntmps65
  go_wp2_with fail
  refine (cmp_any _ A n c a B m d b ha hb (by omega) (by omega)).mono ?_
  rintro e w1 ⟨rfl, hb1⟩
  have ha1 := ha.below hb1
  go_wp2_with fail
  refine (own_any _ A n c a ha1 hn).mono ?_
  rintro e w2 ⟨g, n2, c2, rfl, ho2, hb2⟩
  have hz := hb1.size
  have hb02 : Below w.heap.size w w2 := hb1.trans (hb2.mono hz)
  have hB2 := hb.below hb02
  have hB3 := hB2.bare
  have hn2 := ho2.len
  go_wp2_with fail
  refine (bare_any _ B m d b hB2 (by omega)).mono ?_
  rintro e w3 ⟨rfl, rfl⟩
  go_wp2_with fail
  refine (take_any _ _ g n2 c2 _ B _ _ _ ho2 hB3 (fun h0 => hb.off (by omega) (Nat.le_trans hz ho2.base_le.1)) (by omega) (by omega)).mono ?_
  rintro e w4 ⟨rfl, ho4, hg4⟩
  have hb04 : Below w.heap.size w w4 := hb02.grown hg4 hb02.size (by intro k hk; injection hk with hk; subst hk; have := ho2.base_le.1; omega)
  have hn4 := ho4.len
  go_wp2_with fail
  refine (own_any _ _ _ _ _ ho4.sl (by omega)).mono ?_
  rintro e w5 ⟨g5, n5, c5, rfl, ho5, hb5⟩
  go_wp2_with fail
  go_ret2
  have he : N.nv (N.subS (N.ofN (N.nv a)) (N.ofN (N.nv b)) n2) = N.nv a - N.nv b := by
    have := N.subS_all (N.lim_ofN (N.nv a)) (N.lim_ofN (N.nv b)) hlab (by rw [N.nv_ofN, N.nv_ofN]; exact hle)
    rwa [N.nv_ofN, N.nv_ofN, hn2] at this
  rw [he] at ho5
  exact ⟨g5, n5, c5, rfl, ho5.mono hb04.size, hb04.trans (hb5.mono hb04.size)⟩
end Go.Proofs.YtiidghfkdjefgaaDoor

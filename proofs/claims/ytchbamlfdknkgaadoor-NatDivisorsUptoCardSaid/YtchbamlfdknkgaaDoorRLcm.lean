/-
  riddleref01: Lcm: contract.
-/
import Derived.Test.YtchbamlfdknkgaaDoorRGcd
namespace Go.Proofs.YtchbamlfdknkgaaDoor
open Go.RowKit

set_option maxRecDepth 100000 in
set_option maxHeartbeats 4000000 in
theorem rlcm_any (w : World) (A : Option Addr) (n c : Nat) (a : List Nat) (B : Option Addr) (m d : Nat) (b : List Nat) (ha : Sl w A n c a) (hb : Sl w B m d b) (hn : n ≤ 1099511627776) (hm : m ≤ 1099511627776) :
    Calls Tryd.prog 55 #[.slice A n c, .slice B m d] w fun e w' => ∃ v, e = .returned v ∧ Num w' v (n + m) (Nat.lcm (N.nv a) (N.nv b)) ∧ Below w.heap.size w w' := by
  have hna := N.nv_lt ha.lim
  rw [ha.len] at hna
  have hnb := N.nv_lt hb.lim
  rw [hb.len] at hnb
  have hlcm : Nat.lcm (N.nv a) (N.nv b) ≤ N.nv a * N.nv b := Nat.div_le_self _ _
  have hlb := N.ofN_length_le (pow_bound hna hnb hlcm)
  have HLB := Lib.hid hlb
  have HNA := Lib.hid hna
  clear hna hnb hlcm hlb
  go_enter Tryd.func55, Tryd.ntmps55
  go_wp2_with fail
  refine (rgcd_any _ A n c a B m d b ha hb (by omega) (by omega) (max n m) (by omega) (by omega) (by omega)).mono ?_
  rintro e w1 ⟨v, rfl, ⟨C, l, f, rfl, hs, hl⟩, hb1⟩
  rcases Nat.eq_zero_or_pos (Nat.gcd (N.nv a) (N.nv b)) with hz | hz
  · have h1 := ofN_len_zero hs.len hz
    subst h1
    have e0 : Nat.lcm (N.nv a) (N.nv b) = 0 := by
      rw [(Nat.gcd_eq_zero_iff.1 hz).1]; exact Nat.lcm_zero_left _
    have HZ := Lib.hid hz
    have HE := Lib.hid e0
    clear hz e0
    go_wp2_with fail
    go_ret
    refine ⟨_, rfl, ?_, hb1⟩
    rw [HE.out]
    rw [HZ.out] at hs
    exact ⟨_, _, _, rfl, hs, Nat.zero_le _⟩
  · have h1 := ofN_len_pos hs.len hz
    have tl : ((l : Int) == 0) = false := by
      have : ¬ (l : Int) = 0 := by omega
      simpa using this
    have hpos : 0 < N.nv (N.ofN (Nat.gcd (N.nv a) (N.nv b))) := by rw [N.nv_ofN]; exact hz
    have hq : N.nv a / Nat.gcd (N.nv a) (N.nv b) * N.nv b = Nat.lcm (N.nv a) (N.nv b) := by
      unfold Nat.lcm
      rw [Nat.mul_comm (N.nv a), Nat.mul_div_assoc _ (Nat.gcd_dvd_left _ _), Nat.mul_comm]
    have HQ := Lib.hid hq
    clear hz hq
    go_wp2_with fail
    refine (rdm_any _ A n c a C l f _ (ha.below hb1) hs (by omega) (by omega) hpos).mono ?_
    rintro e w2 ⟨g1, n1, c1, g2, n2, c2, rfl, ho1, _, hb2⟩
    rw [N.nv_ofN] at ho1
    have hl1 := N.ofN_length_le (n := N.nv a / Nat.gcd (N.nv a) (N.nv b)) (Nat.lt_of_le_of_lt (Nat.div_le_self _ _) HNA.out)
    rw [ho1.len] at hl1
    have hb12 := hb1.trans (hb2.mono hb1.size)
    go_wp2_with fail
    refine (rmul_any _ _ n1 c1 _ B m d b ho1.sl (hb.below hb12) (by omega) (by omega)).mono ?_
    rintro e w3 ⟨g3, n3, c3, rfl, ho3, hb3⟩
    rw [N.nv_ofN, HQ.out] at ho3
    go_wp2_with fail
    go_ret
    exact ⟨_, rfl, num_own ho3 HLB.out, hb12.trans (hb3.mono hb12.size)⟩
end Go.Proofs.YtchbamlfdknkgaaDoor

/-
  nat.DivMod in one; nat.Gcd, nat.Lcm, nat.Bits: contracts.
-/
import Derived.Test.YtiidghfkdjefgaaDoorDmLong
import Derived.Deep.LoopGhost
namespace Go.Proofs.YtiidghfkdjefgaaDoor
open Go.RowKit

theorem dm_ok (w : World) (A : Option Addr) (n c : Nat) (a : List Nat) (B : Option Addr) (m d : Nat) (b : List Nat) (ha : Sl w A n c a) (hb : Sl w B m d b) (hn : n ≤ 17592186044416) (hm : m ≤ 17592186044416) (h0 : 0 < N.nv b) :
    Calls Tryd.prog 52 #[.slice A n c, .slice B m d] w fun e w' => ∃ g1 n1 c1 g2 n2 c2, e = .returned (.tuple #[.slice (some ⟨g1, 0, none⟩) n1 c1, .slice (some ⟨g2, 0, none⟩) n2 c2, .int .i64 0]) ∧
      Own w' w.heap.size g1 n1 c1 (N.ofN (N.nv a / N.nv b)) ∧ Own w' w.heap.size g2 n2 c2 (N.ofN (N.nv a % N.nv b)) ∧ g1 < g2 ∧ Below w.heap.size w w' := by
  by_cases h1 : 2 ≤ (N.ofN (N.nv b)).length
  · by_cases hlt : N.nv a < N.nv b
    · exact dm_less w A n c a B m d b ha hb (by omega) (by omega) h1 hlt
    · exact dm_long w A n c a B m d b ha hb (by omega) (by omega) h1 (by omega)
  · have h2 : (N.ofN (N.nv b)).length ≠ 0 := fun h => by
      have := List.eq_nil_of_length_eq_zero h
      rw [N.ofN_eq_nil] at this; omega
    exact dm_one w A n c a B m d b ha hb (by omega) (by omega) (by omega)

set_option maxHeartbeats 800000 in
theorem gcd_any (w : World) (A : Option Addr) (n c : Nat) (a : List Nat) (B : Option Addr) (m d : Nat) (b : List Nat) (ha : Sl w A n c a) (hb : Sl w B m d b) (hn : n ≤ 17592186044416) (hm : m ≤ 17592186044416) :
    Calls Tryd.prog 74 #[.slice A n c, .slice B m d] w fun e w' => ∃ g n' c', e = .returned (.slice (some ⟨g, 0, none⟩) n' c') ∧ Own w' w.heap.size g n' c' (N.ofN (Nat.gcd (N.nv a) (N.nv b))) ∧ Below w.heap.size w w' := by
  have hla := N.nv_len_le ha.lim
  rw [ha.len] at hla
  have hlb := N.nv_len_le hb.lim
  rw [hb.len] at hlb
  go_enter Tryd.func74, Tryd.ntmps74
  go_wp2_with fail
  refine (own_any _ A n c a ha (by omega)).mono ?_
  rintro e w1 ⟨g1, n1, c1, rfl, ho1, hb1⟩
  have hb' := hb.below hb1
  go_wp2_with fail
  refine (own_any _ B m d b hb' (by omega)).mono ?_
  rintro e w2 ⟨g2, n2, c2, rfl, ho2, hb2⟩
  have hz1 := hb1.size
  have ho1' := ho1.below hb2
  have ho2' := ho2.mono hz1
  have hbw : Below w.heap.size w w2 := hb1.trans (hb2.mono hz1)
  have hl1 := ho1.len
  have hl2 := ho2.len
  have HL1 := Lib.hid hl1
  have HL2 := Lib.hid hl2
  clear hl1 hl2
  go_wp2_with fail
  go_loopg [0, 1] (N.nv b) (fun gk v0 v1 wr => ∃ g n1 c1 g' n2 c2 x y, v0 = .slice (some ⟨g, 0, none⟩) n1 c1 ∧ v1 = .slice (some ⟨g', 0, none⟩) n2 c2 ∧ Own wr w.heap.size g n1 c1 (N.ofN x) ∧ Own wr w.heap.size g' n2 c2 (N.ofN y) ∧ Nat.gcd x y = Nat.gcd (N.nv a) (N.nv b) ∧ gk = y ∧ n1 ≤ 17592186044416 ∧ n2 ≤ 17592186044416 ∧ Below w.heap.size w wr)
  case atStart => exact ⟨_, _, _, _, _, _, _, _, rfl, rfl, ho1', ho2', rfl, rfl, by have := HL1.out; omega, by have := HL2.out; omega, hbw⟩
  case round =>
    obtain ⟨g, n1, c1, g', n2, c2, x, y, rfl, rfl, hox, hoy, hgcd, rfl, hn1, hn2, hbw⟩ := hrel
    have HG := Lib.hid hgcd
    clear hgcd
    have hly := hoy.len
    have HLY := Lib.hid hly
    clear hly
    by_cases hy : gk = 0
    · subst hy
      have hn0 : n2 = 0 := by have := HLY.out; simpa [N.ofN_zero] using this.symm
      subst hn0
      go_wp2_with fail
      go_ret
      have e : Nat.gcd (N.nv a) (N.nv b) = x := by rw [← HG.out, Nat.gcd_zero_right]
      rw [e]
      exact ⟨_, _, _, rfl, hox, hbw⟩
    · have hn0 : 0 < n2 := by
        rcases Nat.eq_zero_or_pos n2 with h | h
        · have h2 := HLY.out
          rw [h] at h2
          have h3 := List.eq_nil_of_length_eq_zero h2
          rw [N.ofN_eq_nil] at h3; omega
        · exact h
      have hvx := N.nv_ofN x
      have hvy := N.nv_ofN gk
      have HVX := Lib.hid hvx
      have HVY := Lib.hid hvy
      clear hvx hvy
      have hy0 : 0 < N.nv (N.ofN gk) := by rw [HVY.out]; omega
      go_wp2_with fail
      refine (dm_ok _ _ _ _ _ _ _ _ _ hox.sl hoy.sl hn1 hn2 hy0).mono ?_
      rintro e w3 ⟨g3, n3, c3, g4, n4, c4, rfl, ho3, ho4, hg34, hb3⟩
      rw [HVX.out, HVY.out] at ho4
      have hl4 := ho4.len
      have HL4 := Lib.hid hl4
      clear hl4
      have hlt := Nat.mod_lt x (show 0 < gk by omega)
      go_wp2_with fail
      go_roundg (x % gk)
      case measure => exact hlt
      case rel =>
        have hz := hbw.size
        refine ⟨_, _, _, _, _, _, _, _, rfl, rfl, hoy.below hb3, ho4.mono hz, ?_, rfl, hn2, ?_, hbw.trans (hb3.mono hz)⟩
        · rw [← HG.out, Nat.gcd_comm, ← Nat.gcd_rec, Nat.gcd_comm]
        · have h1 := N.ofN_length_mono (Nat.le_of_lt hlt)
          have h2 := HLY.out
          have h3 := HL4.out
          omega

set_option maxHeartbeats 800000 in
theorem lcm_any (w : World) (A : Option Addr) (n c : Nat) (a : List Nat) (B : Option Addr) (m d : Nat) (b : List Nat) (ha : Sl w A n c a) (hb : Sl w B m d b) (hn : n ≤ 8796093022208) (hm : m ≤ 8796093022208) :
    Calls Tryd.prog 76 #[.slice A n c, .slice B m d] w fun e w' => ∃ g n' c', e = .returned (.slice (some ⟨g, 0, none⟩) n' c') ∧ Own w' w.heap.size g n' c' (N.ofN (Nat.lcm (N.nv a) (N.nv b))) ∧ Below w.heap.size w w' := by
  have hla := N.nv_len_le ha.lim
  rw [ha.len] at hla
  have hlb := N.nv_len_le hb.lim
  rw [hb.len] at hlb
  have hvg := N.nv_ofN (Nat.gcd (N.nv a) (N.nv b))
  have HVG := Lib.hid hvg
  clear hvg
  go_enter Tryd.func76, Tryd.ntmps76
  go_wp2_with fail
  refine (gcd_any _ A n c a B m d b ha hb (by omega) (by omega)).mono ?_
  rintro e w1 ⟨g1, n1, c1, rfl, ho1, hb1⟩
  have hz1 := hb1.size
  have hl1 := ho1.len
  have ha' := ha.below hb1
  by_cases h0 : Nat.gcd (N.nv a) (N.nv b) = 0
  · have hn0 : n1 = 0 := by rw [← hl1, h0]; rfl
    subst hn0
    have HL1 := Lib.hid hl1
    have H0 := Lib.hid h0
    clear hl1 h0
    go_wp2_with fail
    go_ret
    have e : Nat.lcm (N.nv a) (N.nv b) = 0 := by
      have h1 := (Nat.gcd_eq_zero_iff.1 H0.out).1
      rw [h1]; exact Nat.lcm_zero_left _
    rw [e]
    rw [H0.out] at ho1
    exact ⟨_, _, _, rfl, ho1, hb1⟩
  · have hn0 : ((n1 : Int) == 0) = false := by
      have h3 : n1 ≠ 0 := fun h => by
        rw [h] at hl1
        have h3 := List.eq_nil_of_length_eq_zero hl1
        rw [N.ofN_eq_nil] at h3; exact h0 h3
      simpa using h3
    have hg0 : 0 < N.nv (N.ofN (Nat.gcd (N.nv a) (N.nv b))) := by rw [HVG.out]; omega
    have hgl : n1 ≤ 17592186044416 := by
      have h1 : Nat.gcd (N.nv a) (N.nv b) ≤ max (N.nv a) (N.nv b) := by
        rcases Nat.eq_zero_or_pos (N.nv a) with h | h
        · rw [h, Nat.gcd_zero_left]; exact Nat.le_max_right _ _
        · exact Nat.le_trans (Nat.gcd_le_left _ h) (Nat.le_max_left _ _)
      have h2 := N.ofN_length_mono h1
      rw [hl1] at h2
      rcases Nat.le_total (N.nv a) (N.nv b) with h | h
      · rw [Nat.max_eq_right h] at h2; omega
      · rw [Nat.max_eq_left h] at h2; omega
    have HL1 := Lib.hid hl1
    clear hl1 h0
    go_wp2_with fail
    refine (dm_ok _ A n c a _ _ _ _ ha' ho1.sl (by omega) hgl hg0).mono ?_
    rintro e w2 ⟨g3, n3, c3, g4, n4, c4, rfl, ho3, ho4, hg34, hb2⟩
    rw [HVG.out] at ho3
    have hl3 := ho3.len
    have hl3' := N.ofN_length_mono (Nat.div_le_self (N.nv a) (Nat.gcd (N.nv a) (N.nv b)))
    have hn3 : n3 ≤ n := by omega
    clear hl3 hl3'
    have hvq := N.nv_ofN (N.nv a / Nat.gcd (N.nv a) (N.nv b))
    have HVQ := Lib.hid hvq
    clear hvq
    have hb12 : Below w.heap.size w w2 := hb1.trans (hb2.mono hz1)
    have hb' := hb.below hb12
    go_wp2_with fail
    refine (mul_any _ _ _ _ _ B m d b ho3.sl hb' (by omega)).mono ?_
    rintro e w5 ⟨g5, n5, c5, rfl, ho5, hb5⟩
    go_wp2_with fail
    go_ret
    have e : Nat.lcm (N.nv a) (N.nv b) = N.nv (N.ofN (N.nv a / Nat.gcd (N.nv a) (N.nv b))) * N.nv b := by
      rw [HVQ.out, Nat.lcm, Nat.div_mul_right_comm (Nat.gcd_dvd_left _ _)]
    rw [e]
    have hz2 := hb12.size
    exact ⟨_, _, _, rfl, ho5.mono hz2, hb12.trans (hb5.mono hz2)⟩
end Go.Proofs.YtiidghfkdjefgaaDoor

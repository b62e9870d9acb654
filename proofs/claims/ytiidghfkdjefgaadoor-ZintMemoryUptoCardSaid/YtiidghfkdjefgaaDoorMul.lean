/-
  nat.Mul: contract.
-/
import Derived.Test.YtiidghfkdjefgaaDoorSub
namespace Go.Proofs.YtiidghfkdjefgaaDoor
open Go.RowKit

theorem mul_cast_le {x y : Nat} (h : x * y ≤ 18446744065119617025) : (x : Int) * (y : Int) ≤ 18446744065119617025 := by
  rw [← Int.natCast_mul]; omega
theorem mul_cast_nonneg (x y : Nat) : 0 ≤ (x : Int) * (y : Int) := by
  rw [← Int.natCast_mul]; omega

set_option maxHeartbeats 800000 in
theorem mul_any (w : World) (A : Option Addr) (n c : Nat) (a : List Nat) (B : Option Addr) (m d : Nat) (b : List Nat) (ha : Sl w A n c a) (hb : Sl w B m d b) (hnm : n + m ≤ 35184372088832) :
    Calls Tryd.prog 66 #[.slice A n c, .slice B m d] w fun e w' => ∃ g n' c', e = .returned (.slice (some ⟨g, 0, none⟩) n' c') ∧ Own w' w.heap.size g n' c' (N.ofN (N.nv a * N.nv b)) ∧ Below w.heap.size w w' := by
  obtain ⟨i0, hi, hz0, hz1, hz2⟩ := info_parts info_u32
  have hA := ha.bare
  have hB := hb.bare
  have hla := N.nv_len_le ha.lim
  have hlb := N.nv_len_le hb.lim
  rw [ha.len] at hla
  rw [hb.len] at hlb
  have hva := N.nv_ofN (N.nv a)
  have hvb := N.nv_ofN (N.nv b)
  go_enter Tryd.func66, Tryd.ntmps66
  have HVA := Lib.hid hva
  have HVB := Lib.hid hvb
  clear hva hvb
  go_wp2_with fail
  refine (bare_any _ A n c a ha (by omega)).mono ?_
  rintro e w' ⟨rfl, rfl⟩
  go_wp2_with fail
  refine (bare_any _ B m d b hb (by omega)).mono ?_
  rintro e w' ⟨rfl, rfl⟩
  clear ha hb
  generalize N.ofN (N.nv a) = a' at *
  generalize N.ofN (N.nv b) = b' at *
  go_wp2_with (at_make; refine wpList_make_lim _ rfl (.tmp 19) (.tmp 19) 22 rfl i0 Tryd.underlying22 hi hz0 hz1 hz2 .i64 .i64 _ _ (a'.length + b'.length) rfl rfl (by omega) (by omega) (by omega) ?_; intro w1 ho1 hb1)
  go_loopw [23] (fun v23 wr => ∃ i : Nat, i ≤ a'.length ∧ v23 = .int .i64 i ∧ Own wr w.heap.size w.heap.size (a'.length + b'.length) (a'.length + b'.length) (N.mulS a' b' i) ∧ Below w.heap.size w wr) (fun v23 _ => a'.length - (intOf v23).toNat)
  case atStart => exact ⟨0, Nat.zero_le _, rfl, by assumption, by assumption⟩
  case round =>
    obtain ⟨i, hil, rfl, hown, hbw⟩ := hrel
    by_cases hin : i < a'.length
    · obtain ⟨bx, ox, rfl, hcx⟩ := (hA.below hbw).cells (by omega)
      have hc1 := hcx i hin
      have hx := N.dg_lt hA.lim i
      clear hcx
      go_wp2_with fail
      obtain ⟨wo, rfl⟩ : ∃ wo : World, wo = wr := ⟨_, rfl⟩
      go_loopw [8, 30] (fun v8 v30 wr => ∃ k : Nat, k ≤ b'.length ∧ v30 = .int .i64 k ∧ v8 = .int .u64 (N.rowC (N.mulS a' b' i) (N.dg a' i) b' i k) ∧ Own wr w.heap.size w.heap.size (a'.length + b'.length) (a'.length + b'.length) (N.rowS (N.mulS a' b' i) (N.dg a' i) b' i k) ∧ Below w.heap.size w wr) (fun _ v30 _ => b'.length - (intOf v30).toNat)
      case atStart => exact ⟨0, Nat.zero_le _, rfl, rfl, hown, hbw⟩
      case round =>
        obtain ⟨k, hkl, rfl, rfl, hown2, hbw2⟩ := hrel
        have hcl := N.rowC_lt (L := N.mulS a' b' i) (N.mulS_lim hA.lim hB.lim i) hx hB.lim i k
        by_cases hkm : k < b'.length
        · obtain ⟨bb, ob, rfl, hcb⟩ := (hB.below hbw2).cells (by omega)
          have hc2 := hcb k hkm
          have hy := N.dg_lt hB.lim k
          clear hcb
          have hc3 := hown2.cell (i + k) (by omega)
          rw [N.rowS_dg_ge _ _ _ _ _ _ (Nat.le_refl _)] at hc3
          have hf3 := hown2.free (i + k)
          have hl3 := N.dg_lt (N.mulS_lim hA.lim hB.lim i) (i + k)
          have hxy := N.mul_lt hx hy
          have hxy1 : (N.dg a' i : Int) * (N.dg b' k : Int) ≤ 18446744065119617025 := mul_cast_le hxy
          have hxy0 : 0 ≤ (N.dg a' i : Int) * (N.dg b' k : Int) := mul_cast_nonneg _ _
          go_wp2_with fail
          go_roundw
          case rel =>
            have hp : (N.dg a' i : Int) * (N.dg b' k : Int) = (N.dg a' i * N.dg b' k : Nat) := by rw [Int.natCast_mul]
            refine ⟨k + 1, by omega, by go_num, ?_, hown2.set' (i + k) _ (Nat.mod_lt _ (by omega)) _ (by rw [hp]; omega), hbw2.setCell (Nat.le_refl _) _⟩
            simp only [N.rowC]; rw [hp]; go_num
          case measure => simp [intOf]; omega
        · obtain rfl : k = b'.length := by omega
          have hc3 := hown2.cell (i + b'.length) (by omega)
          have hf3 := hown2.free (i + b'.length)
          go_wp2_with fail
          go_roundw
          case rel => exact ⟨i + 1, by omega, by go_num, hown2.set' (i + b'.length) _ hcl _ (by omega), hbw2.setCell (Nat.le_refl _) _⟩
          case measure => simp [intOf]; omega
    · obtain rfl : i = a'.length := by omega
      go_wp2_with (go_at_call 81; refine (own_any _ _ _ _ _ hown.sl (by omega)).mono ?_; rintro e w5 ⟨g5, n5, c5, rfl, ho5, hb5⟩)
      go_ret
      rw [N.mulS_all hA.lim hB.lim] at ho5
      exact ⟨g5, n5, c5, rfl, by rw [← HVA.out, ← HVB.out]; exact ho5.mono hbw.size, hbw.trans (hb5.mono hbw.size)⟩
end Go.Proofs.YtiidghfkdjefgaaDoor

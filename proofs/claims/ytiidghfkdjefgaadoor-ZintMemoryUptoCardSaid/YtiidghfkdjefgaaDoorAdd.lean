/-
  nat.Add: contract.
-/
import Derived.Test.YtiidghfkdjefgaaDoorSub
namespace Go.Proofs.YtiidghfkdjefgaaDoor
open Go.RowKit

set_option maxHeartbeats 800000 in
theorem add_any (w : World) (A : Option Addr) (n c : Nat) (a : List Nat) (B : Option Addr) (m d : Nat) (b : List Nat) (ha : Sl w A n c a) (hb : Sl w B m d b) (hn : n < 35184372088832) (hm : m < 35184372088832) :
    Calls Tryd.prog 63 #[.slice A n c, .slice B m d] w fun e w' => ∃ g n' c', e = .returned (.slice (some ⟨g, 0, none⟩) n' c') ∧ Own w' w.heap.size g n' c' (N.ofN (N.nv a + N.nv b)) ∧ Below w.heap.size w w' := by
  obtain ⟨i0, hi, hz0, hz1, hz2⟩ := info_parts info_u32
  have hA := ha.bare
  have hB := hb.bare
  have hla := N.nv_len_le ha.lim
  have hlb := N.nv_len_le hb.lim
  rw [ha.len] at hla
  rw [hb.len] at hlb
  have hva := N.nv_ofN (N.nv a)
  have hvb := N.nv_ofN (N.nv b)
  go_enter Tryd.func63, Tryd.ntmps63
  have HVA := Lib.hid hva
  have HVB := Lib.hid hvb
  clear hva hvb
  go_wp2_with fail
  refine (bare_any _ A n c a ha (by omega)).mono ?_
  rintro e w' ⟨rfl, rfl⟩
  go_wp2_with fail
  refine (bare_any _ B m d b hb (by omega)).mono ?_
  rintro e w' ⟨rfl, rfl⟩
  clear ha hb
  generalize N.ofN (N.nv a) = a' at *
  generalize N.ofN (N.nv b) = b' at *
  rcases Nat.lt_or_ge a'.length b'.length with hl | hl
  · have hl2 : decide (a'.length < b'.length) = true := by simpa using hl
    go_wp2_with (at_make; refine wpList_make_lim _ rfl (.tmp 22) (.tmp 22) 22 rfl i0 Tryd.underlying22 hi hz0 hz1 hz2 .i64 .i64 _ _ (b'.length + 1) rfl rfl (by omega) (by omega) (by omega) ?_; intro w1 ho1 hb1)
    go_loopw [6, 26] (fun v6 v26 wr => ∃ k : Nat, k ≤ b'.length ∧ v26 = .int .i64 k ∧ v6 = .int .u64 (N.addC b' a' k) ∧ Own wr w.heap.size w.heap.size (b'.length + 1) (b'.length + 1) (N.addS b' a' k) ∧ Below w.heap.size w wr) (fun _ v26 _ => b'.length - (intOf v26).toNat)
    case atStart => exact ⟨0, Nat.zero_le _, rfl, rfl, by assumption, by assumption⟩
    case round =>
      obtain ⟨k, hk, rfl, rfl, hown, hbw⟩ := hrel
      have hcle := N.addC_le hB.lim hA.lim k
      have hf1 := hown.free k
      by_cases hkn : k < b'.length
      · obtain ⟨bx, ox, rfl, hcx⟩ := (hB.below hbw).cells (by omega)
        have hc1 := hcx k hkn
        have hc3 := hown.cell k (by omega)
        have hx := N.dg_lt hB.lim k
        clear hcx
        by_cases hkm : k < a'.length
        · obtain ⟨bb, ob, rfl, hcb⟩ := (hA.below hbw).cells (by omega)
          have hc2 := hcb k hkm
          have hy := N.dg_lt hA.lim k
          clear hcb
          go_wp2_with fail
          go_roundw
          case rel => exact ⟨k + 1, by omega, by go_num, by simp only [N.addC]; go_num, hown.set' k _ (Nat.mod_lt _ (by omega)) _ (by omega), hbw.setCell (Nat.le_refl _) _⟩
          case measure => simp [intOf]; omega
        · have hd0 : N.dg a' k = 0 := N.dg_ge a' k (by omega)
          have HD := Lib.hid hd0
          clear hd0
          go_wp2_with fail
          go_roundw
          case rel =>
            have hd0 := HD.out
            exact ⟨k + 1, by omega, by go_num, by simp only [N.addC, hd0, Nat.add_zero]; go_num, hown.set' k _ (Nat.mod_lt _ (by omega)) _ (by omega), hbw.setCell (Nat.le_refl _) _⟩
          case measure => simp [intOf]; omega
      · obtain rfl : k = b'.length := by omega
        have hc3 := hown.cell b'.length (by omega)
        go_wp2_with (go_at_call 81; refine (own_any _ _ _ _ ((N.addS b' a' b'.length).set b'.length (N.addC b' a' b'.length)) (Own.sl (hown.set' b'.length _ (by omega) _ (by omega))) (by omega)).mono ?_; rintro e w5 ⟨g5, n5, c5, rfl, ho5, hb5⟩)
        go_ret
        have hb6 := hbw.setCell (p := ⟨w.heap.size, b'.length, none⟩) (Nat.le_refl _) (.int .u32 (N.addC b' a' b'.length : Nat))
        rw [N.addS_all (by omega)] at ho5
        have := hbw.size
        exact ⟨g5, n5, c5, rfl, by rw [← HVA.out, ← HVB.out]; rw [Nat.add_comm]; exact ho5.mono (by simpa [World.setCell] using this), by first | exact hb6.trans (hb5.mono (by simpa [World.setCell] using this)) | trace_state⟩
  · have hl2 : decide (a'.length < b'.length) = false := by simp; omega
    go_wp2_with (at_make; refine wpList_make_lim _ rfl (.tmp 22) (.tmp 22) 22 rfl i0 Tryd.underlying22 hi hz0 hz1 hz2 .i64 .i64 _ _ (a'.length + 1) rfl rfl (by omega) (by omega) (by omega) ?_; intro w1 ho1 hb1)
    go_loopw [6, 26] (fun v6 v26 wr => ∃ k : Nat, k ≤ a'.length ∧ v26 = .int .i64 k ∧ v6 = .int .u64 (N.addC a' b' k) ∧ Own wr w.heap.size w.heap.size (a'.length + 1) (a'.length + 1) (N.addS a' b' k) ∧ Below w.heap.size w wr) (fun _ v26 _ => a'.length - (intOf v26).toNat)
    case atStart => exact ⟨0, Nat.zero_le _, rfl, rfl, by assumption, by assumption⟩
    case round =>
      obtain ⟨k, hk, rfl, rfl, hown, hbw⟩ := hrel
      have hcle := N.addC_le hA.lim hB.lim k
      have hf1 := hown.free k
      by_cases hkn : k < a'.length
      · obtain ⟨bx, ox, rfl, hcx⟩ := (hA.below hbw).cells (by omega)
        have hc1 := hcx k hkn
        have hc3 := hown.cell k (by omega)
        have hx := N.dg_lt hA.lim k
        clear hcx
        by_cases hkm : k < b'.length
        · obtain ⟨bb, ob, rfl, hcb⟩ := (hB.below hbw).cells (by omega)
          have hc2 := hcb k hkm
          have hy := N.dg_lt hB.lim k
          clear hcb
          go_wp2_with fail
          go_roundw
          case rel => exact ⟨k + 1, by omega, by go_num, by simp only [N.addC]; go_num, hown.set' k _ (Nat.mod_lt _ (by omega)) _ (by omega), hbw.setCell (Nat.le_refl _) _⟩
          case measure => simp [intOf]; omega
        · have hd0 : N.dg b' k = 0 := N.dg_ge b' k (by omega)
          have HD := Lib.hid hd0
          clear hd0
          go_wp2_with fail
          go_roundw
          case rel =>
            have hd0 := HD.out
            exact ⟨k + 1, by omega, by go_num, by simp only [N.addC, hd0, Nat.add_zero]; go_num, hown.set' k _ (Nat.mod_lt _ (by omega)) _ (by omega), hbw.setCell (Nat.le_refl _) _⟩
          case measure => simp [intOf]; omega
      · obtain rfl : k = a'.length := by omega
        have hc3 := hown.cell a'.length (by omega)
        go_wp2_with (go_at_call 81; refine (own_any _ _ _ _ ((N.addS a' b' a'.length).set a'.length (N.addC a' b' a'.length)) (Own.sl (hown.set' a'.length _ (by omega) _ (by omega))) (by omega)).mono ?_; rintro e w5 ⟨g5, n5, c5, rfl, ho5, hb5⟩)
        go_ret
        have hb6 := hbw.setCell (p := ⟨w.heap.size, a'.length, none⟩) (Nat.le_refl _) (.int .u32 (N.addC a' b' a'.length : Nat))
        rw [N.addS_all (by omega)] at ho5
        have := hbw.size
        exact ⟨g5, n5, c5, rfl, by rw [← HVA.out, ← HVB.out]; exact ho5.mono (by simpa [World.setCell] using this), by first | exact hb6.trans (hb5.mono (by simpa [World.setCell] using this)) | trace_state⟩
end Go.Proofs.YtiidghfkdjefgaaDoor

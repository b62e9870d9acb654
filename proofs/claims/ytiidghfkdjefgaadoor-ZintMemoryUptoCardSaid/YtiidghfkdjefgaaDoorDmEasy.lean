/-
  nat.DivMod: contracts of the ways without long division.
-/
import Derived.Test.YtiidghfkdjefgaaDoorShort
namespace Go.Proofs.YtiidghfkdjefgaaDoor
open Go.RowKit

set_option maxHeartbeats 400000 in
theorem dm_zero (w : World) (A : Option Addr) (n c : Nat) (a : List Nat) (B : Option Addr) (m d : Nat) (b : List Nat) (ha : Sl w A n c a) (hb : Sl w B m d b) (hn : n ≤ 9223372036854775807) (hm : m ≤ 9223372036854775807) (h0 : N.nv b = 0) :
    Calls Tryd.prog 52 #[.slice A n c, .slice B m d] w fun e w' => e = .returned (.tuple #[.slice none 0 0, .slice none 0 0, .int .i64 11]) ∧ w = w' := by
  have hlen : (N.ofN (N.nv b)).length = 0 := by rw [h0]; rfl
  go_enter Tryd.func52, Tryd.ntmps52
  have HL := Lib.hid hlen
  clear hlen
  go_wp2_with fail
  refine (bare_any _ A n c a ha hn).mono ?_
  rintro e w' ⟨rfl, rfl⟩
  go_wp2_with fail
  refine (bare_any _ B m d b hb hm).mono ?_
  rintro e w' ⟨rfl, rfl⟩
  rw [HL.out]
  go_wp2_with fail
  go_ret3
  exact ⟨rfl, rfl⟩

set_option maxHeartbeats 400000 in
theorem dm_one (w : World) (A : Option Addr) (n c : Nat) (a : List Nat) (B : Option Addr) (m d : Nat) (b : List Nat) (ha : Sl w A n c a) (hb : Sl w B m d b) (hn : n ≤ 35184372088832) (hm : m ≤ 9223372036854775807) (h1 : (N.ofN (N.nv b)).length = 1) :
    Calls Tryd.prog 52 #[.slice A n c, .slice B m d] w fun e w' => ∃ g1 n1 c1 g2 n2 c2, e = .returned (.tuple #[.slice (some ⟨g1, 0, none⟩) n1 c1, .slice (some ⟨g2, 0, none⟩) n2 c2, .int .i64 0]) ∧
      Own w' w.heap.size g1 n1 c1 (N.ofN (N.nv a / N.nv b)) ∧ Own w' w.heap.size g2 n2 c2 (N.ofN (N.nv a % N.nv b)) ∧ g1 < g2 ∧ Below w.heap.size w w' := by
  have hA := ha.bare
  have hB := hb.bare
  have hla := N.nv_len_le ha.lim
  rw [ha.len] at hla
  have hva := N.nv_ofN (N.nv a)
  have hvb := N.nv_ofN (N.nv b)
  have hbb := N.bare_ofN (N.nv b)
  go_enter Tryd.func52, Tryd.ntmps52
  have HVA := Lib.hid hva
  have HVB := Lib.hid hvb
  have H1 := Lib.hid h1
  clear hva hvb h1
  go_wp2_with fail
  refine (bare_any _ A n c a ha (by omega)).mono ?_
  rintro e w' ⟨rfl, rfl⟩
  go_wp2_with fail
  refine (bare_any _ B m d b hb hm).mono ?_
  rintro e w' ⟨rfl, rfl⟩
  clear ha hb
  generalize N.ofN (N.nv a) = a' at *
  generalize N.ofN (N.nv b) = b' at *
  obtain ⟨x, rfl⟩ : ∃ x, b' = [x] := List.length_eq_one_iff.1 H1.out
  have hx0 : 0 < x := by
    rcases hbb with h | h
    · cases h
    · simp [N.dg] at h; omega
  have hx1 := hB.lim.head
  obtain ⟨bb, ob, rfl, hcb⟩ := hB.cells (by simp)
  have hc0 : w.cell? ⟨bb, ob, none⟩ = some (.int .u32 (x : Nat)) := hcb 0 (by simp)
  clear hcb
  have hvx : N.nv [x] = x := by simp [N.nv]
  have HVX := Lib.hid hvx
  clear hvx
  rw [List.length_singleton]
  go_wp2_with fail
  refine (short_any _ A _ _ a' x hA (by omega) hx0 hx1).mono ?_
  rintro e w1 ⟨g1, n1, c1, rfl, ho1, hb1⟩
  have hr := Nat.mod_lt (N.nv a') hx0
  go_wp2_with fail
  refine (of_any _ (N.nv a' % x) (by omega)).mono ?_
  rintro e w2 ⟨g2, n2, c2, rfl, ho2, hb2⟩
  go_wp2_with fail
  go_ret3
  have e : N.nv b = x := by rw [← HVB.out, HVX.out]
  rw [e, ← HVA.out]
  have hz := hb1.size
  exact ⟨g1, n1, c1, g2, n2, c2, rfl, ho1.below hb2, ho2.mono hz, by have := ho1.base_le; have := ho2.base_le; omega, hb1.trans (hb2.mono hz)⟩


set_option maxHeartbeats 400000 in
theorem dm_less (w : World) (A : Option Addr) (n c : Nat) (a : List Nat) (B : Option Addr) (m d : Nat) (b : List Nat) (ha : Sl w A n c a) (hb : Sl w B m d b) (hn : n ≤ 35184372088832) (hm : m ≤ 9223372036854775807) (h1 : 2 ≤ (N.ofN (N.nv b)).length) (hlt : N.nv a < N.nv b) :
    Calls Tryd.prog 52 #[.slice A n c, .slice B m d] w fun e w' => ∃ g1 n1 c1 g2 n2 c2, e = .returned (.tuple #[.slice (some ⟨g1, 0, none⟩) n1 c1, .slice (some ⟨g2, 0, none⟩) n2 c2, .int .i64 0]) ∧
      Own w' w.heap.size g1 n1 c1 (N.ofN (N.nv a / N.nv b)) ∧ Own w' w.heap.size g2 n2 c2 (N.ofN (N.nv a % N.nv b)) ∧ g1 < g2 ∧ Below w.heap.size w w' := by
  have hA := ha.bare
  have hB := hb.bare
  have hla := N.nv_len_le ha.lim
  rw [ha.len] at hla
  have hlb := N.nv_len_le hb.lim
  rw [hb.len] at hlb
  have hva := N.nv_ofN (N.nv a)
  have hvb := N.nv_ofN (N.nv b)
  go_enter Tryd.func52, Tryd.ntmps52
  have HVA := Lib.hid hva
  have HVB := Lib.hid hvb
  clear hva hvb
  go_wp2_with fail
  refine (bare_any _ A n c a ha (by omega)).mono ?_
  rintro e w' ⟨rfl, rfl⟩
  go_wp2_with fail
  refine (bare_any _ B m d b hb hm).mono ?_
  rintro e w' ⟨rfl, rfl⟩
  clear ha hb
  generalize N.ofN (N.nv a) = a' at *
  generalize N.ofN (N.nv b) = b' at *
  have hlt' : N.nv a' < N.nv b' := by rw [HVA.out, HVB.out]; exact hlt
  have hc := N.cmpN_lt hlt'
  have t1 : ((b'.length : Int) == 0) = false := by simp; intro h; rw [h] at h1; simp at h1
  have t2 : ((b'.length : Int) == 1) = false := by simp; omega
  go_wp2_with fail
  refine (cmp_any _ A _ _ a' B _ _ b' hA hB (by omega) (by omega)).mono ?_
  rintro e w1 ⟨rfl, hb1⟩
  have hz1 := hb1.size
  have hA1 := hA.below hb1
  have hA2 := hA1.below ((Below.refl _ _).alloc (Nat.le_refl _) (.cells #[] 65))
  go_wp2_with fail
  refine (own_any _ A _ _ a' hA2 (by omega)).mono ?_
  rintro e w3 ⟨g3, n3, c3, rfl, ho3, hb3⟩
  go_wp2_with fail
  go_ret3
  have ho1 := (Own.empty w1).below hb3
  have hb2 : Below w.heap.size w (w1.alloc (.cells #[] 65)) := hb1.alloc hz1 _
  rw [Nat.div_eq_of_lt hlt, Nat.mod_eq_of_lt hlt, ← HVA.out]
  exact ⟨_, 0, 0, g3, n3, c3, rfl, ho1.mono hz1, ho3.mono (by simp; omega), by have := ho3.base_le.1; simp at this; omega, hb2.trans (hb3.mono (by simp; omega))⟩
end Go.Proofs.YtiidghfkdjefgaaDoor

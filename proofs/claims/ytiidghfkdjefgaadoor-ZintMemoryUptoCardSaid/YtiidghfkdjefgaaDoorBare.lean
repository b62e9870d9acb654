/-
  nat.bare, nat.own, nat.Of: contracts.
-/
import Derived.Test.YtiidghfkdjefgaaDoorMem
namespace Go.Proofs.YtiidghfkdjefgaaDoor
open Go.RowKit

set_option maxHeartbeats 400000 in
theorem bare_any (w : World) (A : Option Addr) (n c : Nat) (l : List Nat) (h : Sl w A n c l) (hm : n ≤ 9223372036854775807) :
    Calls Tryd.prog 79 #[.slice A n c] w fun e w' => e = .returned (.slice A (N.ofN (N.nv l)).length (N.ofN (N.nv l)).length) ∧ w = w' := by
  have hcap := h.cap
  go_enter Tryd.func79, Tryd.ntmps79
  go_wp2
  go_step3
  go_wp2
  go_step3
  go_wp2
  go_loop [3] (fun v => ∃ k : Nat, k ≤ n ∧ v = .int .i64 k ∧ ∀ j, k ≤ j → j < n → N.dg l j = 0) (fun v => (intOf v).toNat)
  case atStart => exact ⟨n, Nat.le_refl _, rfl, fun j h1 h2 => by omega⟩
  case round =>
    obtain ⟨k, hk, rfl, hz⟩ := hrel
    have HZ := Lib.hid hz
    clear hz
    by_cases hk0 : k = 0
    · subst hk0
      go_wp2
      go_ret
      have e : (N.ofN (N.nv l)).length = 0 := N.bare_len h.lim (by omega) (fun j h1 h2 => HZ.out j h1 (by rw [h.len] at h2; exact h2)) (.inl rfl)
      rw [e]
      exact ⟨rfl, rfl⟩
    · obtain ⟨b, o, rfl, hc⟩ := h.cells (by omega)
      have hck := hc (k - 1) (by omega)
      clear hc
      go_wp2
      · have ht : ((N.dg l (k - 1) : Int) != 0) = true := by assumption
        go_ret
        have e : (N.ofN (N.nv l)).length = k := N.bare_len h.lim (by rw [h.len]; exact hk) (fun j h1 h2 => HZ.out j h1 (by rw [h.len] at h2; exact h2)) (.inr (by simpa using ht))
        rw [e]
        exact ⟨rfl, rfl⟩
      · have ht : ((N.dg l (k - 1) : Int) != 0) = false := by assumption
        go_round
        case rel =>
          refine ⟨k - 1, by omega, by go_num, fun j h1 h2 => ?_⟩
          rcases Nat.lt_or_ge j k with h3 | h3
          · obtain rfl : j = k - 1 := by omega
            simpa using ht
          · exact HZ.out j h3 h2
        case measure => simp [intOf]; omega

/-- The element type's row of the table. -/
theorem info_u32 : (Tryd.prog.info? 65).map (fun i => (i.zero, i.size, i.bytes)) = some (some (.int .u32 0), 1, 4) := by kernel_rfl

set_option maxHeartbeats 400000 in
theorem own_any (w : World) (A : Option Addr) (n c : Nat) (l : List Nat) (h : Sl w A n c l) (hm : n ≤ 35184372088832) :
    Calls Tryd.prog 81 #[.slice A n c] w fun e w' => ∃ g n' c', e = .returned (.slice (some ⟨g, 0, none⟩) n' c') ∧ Own w' w.heap.size g n' c' (N.ofN (N.nv l)) ∧ Below w.heap.size w w' := by
  go_enter Tryd.func81, Tryd.ntmps81
  obtain ⟨i0, hi, hz0, hz1, hz2⟩ := info_parts info_u32
  have hb := h.bare
  have hle := N.nv_len_le h.lim
  have hlen := h.len
  have hB : Below w.heap.size w (w.alloc (.cells #[] 65)) := (Below.refl _ _).alloc (Nat.le_refl _) _
  have hs1 := h.below hB
  have hown : Own (w.alloc (.cells #[] 65)) w.heap.size w.heap.size 0 0 [] := Own.empty w
  have hn1 := (hb.below hB).news
  have HL := Lib.hid hlen
  clear hlen
  have hm1 : 0 + (N.ofN (N.nv l)).length ≤ 35184372088832 := by have := HL.out; omega
  go_wp2_with (first
    | (go_at_call 79; refine (bare_any _ A n c l hs1 (by omega)).mono ?_; rintro e w' ⟨rfl, rfl⟩)
    | (at_builtin; refine wpList_append_lim _ rfl (.tmp 3) (.tmp 5) 22 rfl w.heap.size i0 Tryd.underlying22 hi hz0 hz1 hz2 _ _ _ _ rfl hown _ _ _ (N.ofN (N.nv l)) rfl rfl (N.lim_ofN _) hn1 hm1 (by simp) _ (Nat.zero_add _) _ (List.nil_append _) ?_; intro g cap w1 hown' hgrow))
  have hb1 : Below w.heap.size w _ := hB.grown (by assumption) (by simp) (by intro k hk; simp at hk; omega)
  go_ret
  exact ⟨_, _, _, rfl, by assumption, hb1⟩
end Go.Proofs.YtiidghfkdjefgaaDoor

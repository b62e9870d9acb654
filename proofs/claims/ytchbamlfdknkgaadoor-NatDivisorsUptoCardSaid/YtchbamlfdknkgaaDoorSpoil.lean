/-
  riddlelaw01.spoil: it writes into one block.
-/
import Derived.Test.YtchbamlfdknkgaaDoorKnown
namespace Go.Proofs.YtchbamlfdknkgaaDoor
open Go.RowKit

/-- A row of c limbs that may be written. -/
structure Row (w : World) (g c : Nat) : Prop where
  full : Full w g c
  free : ∀ k, w.frozen? ⟨g, k, none⟩ = false
theorem Row.set {w : World} {g c : Nat} (h : Row w g c) (k : Nat) (z : Int) : Row (w.setCell ⟨g, k, none⟩ (.int .u32 z)) g c :=
  ⟨h.full.set k z, fun j => by rw [World.frozen?_setCell]; exact h.free j⟩
theorem Own.cap_le {w : World} {base g n c : Nat} {l : List Nat} (h : Own w base g n c l) : n ≤ c ∧ c ≤ maxLen := by
  rcases h.own.2 with ⟨e, _⟩ | ⟨g', cap, cur, e, _, _, hle, hm, _⟩
  · cases e
  · injection e with _ _ e2; omega

set_option maxHeartbeats 400000 in
theorem spoil_any (w : World) (base g n c : Nat) (l : List Nat) (ho : Own w base g n c l) :
    Calls Tryd.prog 79 #[.slice (some ⟨g, 0, none⟩) n c] w fun e w' => e = .returned (.tuple #[]) ∧ w.grownBy w' (some g) := by
  have hr0 : Row w g c := ⟨ho.full, ho.free⟩
  have hcap := ho.cap_le
  unfold maxLen at hcap
  go_enter Tryd.func79, Tryd.ntmps79
  go_wp2_with fail
  go_loopw [2] (fun v2 wr => ∃ k : Nat, k ≤ c ∧ v2 = .int .i64 k ∧ Row wr g c ∧ w.grownBy wr (some g)) (fun v2 _ => c - (intOf v2).toNat)
  case atStart => exact ⟨0, Nat.zero_le _, rfl, hr0, World.grownBy.refl _ _⟩
  case round =>
    obtain ⟨k, hk, rfl, hrow, hgr⟩ := hrel
    by_cases hkn : k < c
    · obtain ⟨z, hz⟩ := hrow.full k hkn
      have hf := hrow.free k
      go_wp2_with fail
      go_roundw
      case rel => exact ⟨k + 1, by omega, by go_num, hrow.set k _, gb_set hgr k _⟩
      case measure => simp [intOf]; omega
    · obtain rfl : k = c := by omega
      go_wp2_with fail
      go_end0
      exact ⟨rfl, hgr⟩
end Go.Proofs.YtchbamlfdknkgaaDoor

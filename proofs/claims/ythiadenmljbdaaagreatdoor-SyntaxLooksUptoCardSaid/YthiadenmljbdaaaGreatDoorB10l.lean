/-
  l: the parts YMay.
-/
import Derived.Test.YthiadenmljbdaaaGreatDoorB7l
import Derived.Deep.CutRange
namespace Go.Proofs.YthiadenmljbdaaaGreatDoor
section
open Go.RowKit
def T.cntOK (t : T) : Bool := decide (leastK t.k ≤ t.ks.length) && (decide (mostK t.k < 0) || decide ((t.ks.length : Int) ≤ mostK t.k))
theorem nm_empty (s : ByteArray) : (s.size = 0 → (s.toList == []) = true ∧ (s.toList != []) = false) ∧ (s.size ≠ 0 → (s.toList == []) = false ∧ (s.toList != []) = true) := by
 have h : s.toList = [] ↔ s.size = 0 := by
  rw [ByteArray.toList_eq, ← size_list]
  exact List.length_eq_zero_iff.symm
 refine ⟨fun h0 => ?_, fun h0 => ?_⟩
 · rw [h.2 h0]; exact ⟨rfl, rfl⟩
 · have hne : s.toList ≠ [] := fun e => h0 (h.1 e)
   exact ⟨by simpa using hne, by simpa using hne⟩
end
end Go.Proofs.YthiadenmljbdaaaGreatDoor

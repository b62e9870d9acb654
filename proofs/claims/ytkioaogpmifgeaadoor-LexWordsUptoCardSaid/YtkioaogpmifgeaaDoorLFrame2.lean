/-
  An argument of type uint64, of type string, opened.
-/
import Derived.Test.YtkioaogpmifgeaaDoorLFrame
import Derived.ChangeMaps5
namespace Go.Proofs.YtkioaogpmifgeaaDoor
open Go.ChangeShapes Go.ChangeMaps Go.WideShapes Go.ChangeAt Go.RowKit

section
variable {H : Type} {enc : TypeId × Value → H} {W : World}
set_option maxRecDepth 100000 in
theorem open_u64 {base : Nat} {v : Value} {d : DataW H} {p : List MemPlace} (hval : Value.okWide Tryd.prog W .any base 69 v) (h : DataW.Trod enc Tryd.prog W 0 (fun _ => true) true 69 v d p) :
    (∃ n : Nat, v = .int .u64 n ∧ n < 18446744073709551616) ∧ ∀ W', Below W.heap.size W W' → DataW.Trod enc Tryd.prog W' 0 (fun b => decide (b < W.heap.size)) true 69 v d p := by
  obtain ⟨n, rfl, rfl, rfl, hw⟩ := open_int Tryd.underlying69 hval h
  refine ⟨?_, fun W' _ => shut_int Tryd.underlying69 hw⟩
  have hb := bounds_u64 hw
  exact ⟨n.toNat, by congr 1; omega, by omega⟩
set_option maxRecDepth 100000 in
theorem open_text {base : Nat} {v : Value} {d : DataW H} {p : List MemPlace} (hval : Value.okWide Tryd.prog W .any base 9 v) (h : DataW.Trod enc Tryd.prog W 0 (fun _ => true) true 9 v d p) :
    (∃ S : ByteArray, v = .string S ∧ S.size + 1 ≤ Rows.uptoBulk d) ∧ ∀ W', Below W.heap.size W W' → DataW.Trod enc Tryd.prog W' 0 (fun b => decide (b < W.heap.size)) true 9 v d p := by
  obtain ⟨S, rfl, rfl, rfl, hs⟩ := open_string Tryd.underlying9 hval h
  exact ⟨⟨S, rfl, by simp only [Rows.uptoBulk, Array.length_toList]; exact Nat.le_refl _⟩, fun W' _ => shut_string Tryd.underlying9 hs⟩
end
end Go.Proofs.YtkioaogpmifgeaaDoor

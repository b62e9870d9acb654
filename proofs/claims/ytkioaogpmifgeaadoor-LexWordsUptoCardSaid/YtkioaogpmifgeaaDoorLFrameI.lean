/-
  An argument of type int, opened.
-/
import Derived.Test.YtkioaogpmifgeaaDoorLFrame2
import Derived.Test.YtkioaogpmifgeaaDoorLexB
namespace Go.Proofs.YtkioaogpmifgeaaDoor
open Go.ChangeShapes Go.ChangeMaps Go.WideShapes Go.ChangeAt Go.RowKit

section
variable {H : Type} {enc : TypeId × Value → H} {W : World}
set_option maxRecDepth 100000 in
theorem open_kint {base : Nat} {v : Value} {d : DataW H} {p : List MemPlace} (hval : Value.okWide Tryd.prog W .any base 3 v) (h : DataW.Trod enc Tryd.prog W 0 (fun _ => true) true 3 v d p) :
    (∃ n : Int, v = .int .i64 n ∧ -9223372036854775808 ≤ n ∧ n < 9223372036854775808) ∧ ∀ W', Below W.heap.size W W' → DataW.Trod enc Tryd.prog W' 0 (fun b => decide (b < W.heap.size)) true 3 v d p := by
  obtain ⟨n, rfl, rfl, rfl, hw⟩ := open_int Tryd.underlying3 hval h
  refine ⟨?_, fun W' _ => shut_int Tryd.underlying3 hw⟩
  have hb := bounds_i64 hw
  exact ⟨n, rfl, by omega, by omega⟩
end
end Go.Proofs.YtkioaogpmifgeaaDoor

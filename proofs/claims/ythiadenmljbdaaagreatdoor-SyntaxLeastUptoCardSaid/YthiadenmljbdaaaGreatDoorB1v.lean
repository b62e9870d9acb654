/-
  v: the parts late LexP of the proof.
-/
import Derived.Test.YthiadenmljbdaaaGreatDoorB6s
import Derived.Deep.Cut
section
namespace Go.Proofs.YthiadenmljbdaaaGreatDoor
open Go.RowKit
theorem X.sub_list {S : ByteArray} {a k : Nat} : (S.extract a (a + k)).data.toList = (S.data.toList.drop a).take k := by
  rw [← ByteArray.toList_eq, Lib.extract_toList, Nat.add_sub_cancel_left]
end Go.Proofs.YthiadenmljbdaaaGreatDoor
end

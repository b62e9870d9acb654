/-
  l: the parts PRend PRend2.
-/
import Derived.Test.YthiadenmljbdaaaGreatDoorB13l
import Derived.Test.YthiadenmljbdaaaGreatDoorB15l
namespace Go.Proofs.YthiadenmljbdaaaGreatDoor
section
namespace P
def itB : It → List UInt8
 | Option.none => [32]
 | Option.some x => x.2.1.data.toList
def bytes (l : List It) : List UInt8 := l.flatMap itB
theorem bytes_append (a b : List It) : bytes (a ++ b) = bytes a ++ bytes b := by simp [bytes]
theorem bytes_cons (a : It) (b : List It) : bytes (a :: b) = itB a ++ bytes b := by simp [bytes]
def Stands (x : Nat × ByteArray × List Nat) (r : List UInt8) : Prop :=
 X.one (x.2.1.data.toList ++ r) = (0, x.1, x.2.1.data.toList.length) ∧ X.blank ((x.2.1.data.toList ++ r).getD 0 0) = false ∧ x.2.2 = (if x.1 = 1 then N.ofN (N.val x.2.1.data.toList) else [])
def Chn : List It → List UInt8 → Prop
 | [], _ => True
 | Option.none :: l, r => Chn l r
 | Option.some x :: l, r => Stands x (bytes l ++ r) ∧ Chn l r
theorem Chn.app : ∀ {a b : List It} {r : List UInt8}, Chn a (bytes b ++ r) → Chn b r → Chn (a ++ b) r
 | [], _, _, _, h => h
 | Option.none :: l, _, _, h, k => Chn.app (a := l) h k
 | Option.some x :: l, b, r, h, k => ⟨by have := h.1; rw [← List.append_assoc, ← bytes_append] at this; exact this, Chn.app (a := l) h.2 k⟩
def Nr (r : List UInt8) : Prop := r = [] ∨ X.rowc (r.getD 0 0) = false
theorem Nr.sp (r : List UInt8) : Nr (32 :: r) := .inr rfl
end P
end
section
namespace P
def said (t : T) : List UInt8 := bytes (wrap 1 true (pt t))
end P
end
end Go.Proofs.YthiadenmljbdaaaGreatDoor

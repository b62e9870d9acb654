/-
  What each law's row wants: the witness's world, an argument opened.
-/
import Derived.Test.YtkioaogpmifgeaaDoorCards
import Derived.Test.YtkioaogpmifgeaaDoorTie
import Derived.Test.YtkioaogpmifgeaaDoorLRParse
import Derived.ProofKit
import Derived.OpenShut
import Derived.Deep.DeepHandedRow
namespace Go.Proofs.YtkioaogpmifgeaaDoor
open Go.ChangeShapes Go.WideShapes Go.ChangeAt Go.RowKit

theorem own : ownKnob Tryd.prog.godebug = none := by kernel_rfl
theorem laidOut : laidOutB Tryd.prog = true := by kernel_rfl
theorem cellsU32 : Tryd.prog.cellsOf 54 = 1 := by kernel_rfl

/-- The cells of a datum of integers (of rows of integers). -/
def cellsOfLits {H : Type} : List (DataW H) → List Value
  | [] => []
  | .lit (.int k n) :: r => .int k n :: cellsOfLits r
  | _ :: r => cellsOfLits r
def cellsOfDatum {H : Type} : DataW H → List Value
  | .agg l => l.flatMap fun | .lit (.int k n) => [.int k n] | .agg m => cellsOfLits m | _ => []
  | _ => []
/-- An object of cells, its cells put anew. -/
def putCells (cs : Array Value) : Obj → Obj
  | .cells _ t frozen => .cells cs t frozen
  | o => o
/-- A world for the witness: the settled one, the two listed tables holding what their initialisers lay. -/
noncomputable def laidWorld (os : Os) : World :=
  { World.holding Tryd.prog os ⟨#[], #[], []⟩ with heap := ((World.holding Tryd.prog os ⟨#[], #[], []⟩).heap.modify 1 (putCells (cellsOfDatum Go.Pinned.utf8First).toArray)).modify 2 (putCells (cellsOfDatum (Rows.laid_unicode_utf8_acceptRanges (H := Unit))).toArray) }

section
variable {H : Type} {enc : TypeId × Value → H} {W : World}
/-- The limbs of integers. -/
def limbs (zs : List Int) : List Nat := zs.map Int.toNat
theorem limbs_dg (zs : List Int) (k : Nat) (h : k < zs.length) (h0 : 0 ≤ zs.getD k 0) : (N.dg (limbs zs) k : Int) = zs.getD k 0 := by
  rw [N.dg_get _ _ (by simpa [limbs] using h)]
  have e : zs.getD k 0 = zs[k] := by simp [List.getD, h]
  rw [e] at h0 ⊢
  simp only [limbs, List.getElem_map]
  omega
set_option maxRecDepth 100000 in
/-- An argument of type []uint32: it reads as some number's limbs; it reads so behind the call. -/
theorem open_arg {base : Nat} {v : Value} {d : DataW H} {p : List MemPlace} (hval : Value.okWide Tryd.prog W .any base 40 v) (h : DataW.Trod enc Tryd.prog W 0 (fun _ => true) true 40 v d p) (hlt : ∀ x ∈ p, x.block < W.heap.size) :
    (∃ A n c l, v = .slice A n c ∧ Sl W A n c l ∧ n + 1 ≤ Rows.uptoBulk d) ∧
      ∀ W', Below W.heap.size W W' → DataW.Trod enc Tryd.prog W' 0 (fun b => decide (b < W.heap.size)) true 40 v d p := by
  refine ⟨?_, fun W' hb => Below.trod laidOut (by kernel_rfl) (of_decide_eq_true (by kernel_rfl)) h hb hlt⟩
  obtain ⟨a0, len, cap, rfl⟩ := okWide_slice Tryd.underlying40 hval
  obtain ⟨fuel, hf⟩ := h
  rcases open_ints Tryd.underlying40 Tryd.underlying54 cellsU32 hf with ⟨hcs, hx⟩ | ⟨a, len', cap', zs, hcs, _, hl, hm, hz, hx, hcell, hwz⟩
  · simp [Value.cells] at hcs
    obtain ⟨rfl, rfl, rfl⟩ := hcs
    simp only [Prod.mk.injEq] at hx
    obtain ⟨rfl, rfl⟩ := hx
    exact ⟨none, 0, 0, [], rfl, Sl.nil _ _ _, by simp [Rows.uptoBulk]⟩
  · simp [Value.cells] at hcs
    obtain ⟨rfl, rfl, rfl⟩ := hcs
    simp only [Prod.mk.injEq] at hx
    obtain ⟨rfl, rfl⟩ := hx
    simp only [if_true] at hz
    have hb : ∀ k, k < zs.length → 0 ≤ zs.getD k 0 ∧ zs.getD k 0 < 4294967296 := fun k hk => by
      have e : zs.getD k 0 = zs[k] := by simp [List.getD, hk]
      rw [e]
      have := bounds_u32 (hwz zs[k] (List.getElem_mem hk))
      omega
    have hlen : (limbs (zs.take len)).length = len := by simp [limbs]; omega
    refine ⟨some a, len, cap, limbs (zs.take len), rfl, ⟨hlen, hl, ?_, ?_⟩, ?_⟩
    · refine N.Lim.of_dg fun k hk => ?_
      rw [hlen] at hk
      have e : (zs.take len).getD k 0 = zs.getD k 0 := by simp [List.getD, hk]
      have h1 := hb k (by omega)
      have h2 := limbs_dg (zs.take len) k (by simp; omega) (by rw [e]; exact h1.1)
      rw [e] at h2; omega
    · intro hn
      obtain ⟨b, off, spot⟩ := a
      have hspot : spot = none := by simpa [Addr.add] using World.cell?_spot (hcell 0 (by omega))
      subst hspot
      refine ⟨b, off, rfl, fun k hk => ?_⟩
      have e : (zs.take len).getD k 0 = zs.getD k 0 := by simp [List.getD, hk]
      have h1 := hb k (by omega)
      have h2 := limbs_dg (zs.take len) k (by simp; omega) (by rw [e]; exact h1.1)
      have h3 := hcell k (by omega)
      rw [Addr.add_lit] at h3
      rw [h3, h2, e]
    · have h1 : ∀ (l : List Int), (lits (H := H) .u32 l).length ≤ Rows.uptoBulkAll (lits (H := H) .u32 l) := by
        intro l
        induction l with
        | nil => simp [lits, Rows.uptoBulkAll]
        | cons x l ih => simp only [lits, List.map_cons, List.length_cons, Rows.uptoBulkAll, Rows.uptoBulk] at ih ⊢; omega
      have h2 := h1 (zs.take len)
      simp only [lits, List.length_map, List.length_take] at h2
      simp only [Rows.uptoBulk, lits]
      omega
end
end Go.Proofs.YtkioaogpmifgeaaDoor

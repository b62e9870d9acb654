/-
  An argument of type []int, opened.
-/
import Derived.Test.YtkioaogpmifgeaaDoorLFrame2
import Derived.Test.YtkioaogpmifgeaaDoorLexU
namespace Go.Proofs.YtkioaogpmifgeaaDoor
open Go.ChangeShapes Go.ChangeMaps Go.WideShapes Go.ChangeAt Go.RowKit

theorem cellsJ : Tryd.prog.cellsOf 3 = 1 := by kernel_rfl
section
variable {H : Type} {enc : TypeId × Value → H} {W : World}
set_option maxRecDepth 100000 in
theorem open_jnts {base : Nat} {v : Value} {d : DataW H} {p : List MemPlace} (hval : Value.okWide Tryd.prog W .any base 48 v) (h : DataW.Trod enc Tryd.prog W 0 (fun _ => true) true 48 v d p) (hlt : ∀ x ∈ p, x.block < W.heap.size) :
    (∃ A n c, v = .slice A n c ∧ ArrJ W A n ∧ n + 1 ≤ Rows.uptoBulk d) ∧
      ∀ W', Below W.heap.size W W' → DataW.Trod enc Tryd.prog W' 0 (fun b => decide (b < W.heap.size)) true 48 v d p := by
  refine ⟨?_, fun W' hb => Below.trod laidOut (by kernel_rfl) (of_decide_eq_true (by kernel_rfl)) h hb hlt⟩
  obtain ⟨a0, len, cap, rfl⟩ := okWide_slice Tryd.underlying48 hval
  obtain ⟨fuel, hf⟩ := h
  rcases open_ints Tryd.underlying48 Tryd.underlying3 cellsJ hf with ⟨hcs, hx⟩ | ⟨a, len', cap', zs, hcs, _, hl, hm, hz, hx, hcell, hwz⟩
  · simp [Value.cells] at hcs
    obtain ⟨rfl, rfl, rfl⟩ := hcs
    simp only [Prod.mk.injEq] at hx
    obtain ⟨rfl, rfl⟩ := hx
    exact ⟨none, 0, 0, rfl, fun h => absurd h (by omega), by simp [Rows.uptoBulk]⟩
  · simp [Value.cells] at hcs
    obtain ⟨rfl, rfl, rfl⟩ := hcs
    simp only [Prod.mk.injEq] at hx
    obtain ⟨rfl, rfl⟩ := hx
    simp only [if_true] at hz
    refine ⟨some a, len, _, rfl, fun hn => ?_, ?_⟩
    · obtain ⟨b, off, spot⟩ := a
      have hspot : spot = none := by simpa [Addr.add] using World.cell?_spot (hcell 0 (by omega))
      subst hspot
      refine ⟨b, off, rfl, fun k hk => ?_⟩
      have hk' : k < zs.length := by omega
      have e : zs.getD k 0 = zs[k] := by simp [List.getD, hk']
      have h3 := hcell k (by omega)
      rw [Addr.add_lit] at h3
      refine ⟨zs.getD k 0, h3, ?_⟩
      rw [e]
      have := bounds_i64 (hwz zs[k] (List.getElem_mem hk'))
      exact ⟨by omega, by omega⟩
    · have h1 : ∀ (l : List Int), (lits (H := H) .i64 l).length ≤ Rows.uptoBulkAll (lits (H := H) .i64 l) := by
        intro l
        induction l with
        | nil => simp [lits, Rows.uptoBulkAll]
        | cons x l ih => simp only [lits, List.map_cons, List.length_cons, Rows.uptoBulkAll, Rows.uptoBulk] at ih ⊢; omega
      have h2 := h1 (zs.take len)
      simp only [lits, List.length_map, List.length_take] at h2
      simp only [Rows.uptoBulk, lits]
      omega
end
end Go.Proofs.YtkioaogpmifgeaaDoor

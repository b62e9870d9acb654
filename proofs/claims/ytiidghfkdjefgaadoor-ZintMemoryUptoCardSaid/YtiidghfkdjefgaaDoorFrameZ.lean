/-
  An argument of type api.Int, opened.
-/
import Derived.Test.YtiidghfkdjefgaaDoorFrame
import Derived.ChangeMaps5
import Derived.Test.YtiidghfkdjefgaaDoorZRef4
import Derived.Lib.SmallJoins
namespace Go.Proofs.YtiidghfkdjefgaaDoor
open Go.ChangeShapes Go.ChangeMaps Go.WideShapes Go.ChangeAt Go.RowKit Go.Joins

theorem cellsInt : Tryd.prog.cellsOf 24 = 2 := by kernel_rfl
theorem typesInt : Tryd.prog.cellTypes Tryd.prog.depth 24 = some [4, 22] := by kernel_rfl
section
variable {H : Type} {enc : TypeId × Value → H} {W : World}
set_option maxRecDepth 100000 in
theorem pl_of {base : Nat} {v : Value} (h : Cell.okWide Tryd.prog W .any base 22 v) : ∃ A n c, v = .slice A n c := by
  have h2 : Value.okWide Tryd.prog W .any base 22 v := by simpa [Value.okWide, Tryd.underlying22] using h
  obtain ⟨a, n, c, rfl⟩ := okWide_slice Tryd.underlying22 h2
  exact ⟨a, n, c, rfl⟩
set_option maxRecDepth 100000 in
theorem open_num {base : Nat} {v : Value} {d : DataW H} {p : List MemPlace} (hval : Value.okWide Tryd.prog W .any base 24 v) (h : DataW.Trod enc Tryd.prog W 0 (fun _ => true) true 24 v d p) (hlt : ∀ x ∈ p, x.block < W.heap.size) :
    (∃ s l K, IRaw W v K s l ∧ K + 2 ≤ Rows.uptoBulk d) ∧
      ∀ W', Below W.heap.size W W' → DataW.Trod enc Tryd.prog W' 0 (fun b => decide (b < W.heap.size)) true 24 v d p := by
  refine ⟨?_, fun W' hb => Below.trod laidOut (by kernel_rfl) (of_decide_eq_true (by kernel_rfl)) h hb hlt⟩
  obtain ⟨c0, c1, y0, y1, m, rfl, rfl, rfl, hy0, hy1⟩ := open_agg2 Tryd.underlying24 (by kernel_rfl) cellsInt hval h
  obtain ⟨s, hc0, _⟩ := DataW.trod_bool Tryd.underlying4 hy0
  have hc0' : c0 = .bool s := by simpa using hc0
  subst hc0'
  have hrow : Cell.okWide Tryd.prog W .any base 22 c1 := by
    have h1 := hval
    simp only [Value.okWide, Tryd.underlying24] at h1
    obtain ⟨cs, hcs, _, ts, hts, _, hall⟩ := h1
    injection hcs with hcs
    subst hcs
    rw [typesInt] at hts
    injection hts with hts
    subst hts
    obtain ⟨u, hu, hok⟩ := hall 1 c1 rfl
    have : u = 22 := by simpa using hu.symm
    subst this
    exact hok
  obtain ⟨A, n, c, rfl⟩ := pl_of hrow
  have hval1 : Value.okWide Tryd.prog W .any base 22 (.slice A n c) := by simpa [Value.okWide, Tryd.underlying22] using hrow
  obtain ⟨⟨A', n', c', l, e, hs, hn⟩, _⟩ := open_arg hval1 (d := y1.1) (p := y1.2) ⟨m, by simpa [Value.cells] using hy1⟩ (fun x hx => hlt x (by simp [hx]))
  injection e with e1 e2 e3
  subst e1; subst e2; subst e3
  exact ⟨s, l, n, ⟨A, n, c, rfl, Pl.any _, hs, Nat.le_refl _⟩, by simp only [Rows.uptoBulk, Rows.uptoBulkAll]; omega⟩
end
end Go.Proofs.YtiidghfkdjefgaaDoor

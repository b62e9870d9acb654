/-
  An argument of type []api.Int, opened.
-/
import Derived.Test.YtiidghfkdjefgaaDoorFrameZ
import Derived.Test.YtiidghfkdjefgaaDoorZOwn
import Derived.Deep.SlicePairs
namespace Go.Proofs.YtiidghfkdjefgaaDoor
open Go.ChangeShapes Go.ChangeMaps Go.WideShapes Go.ChangeAt Go.RowKit Go.Joins

section
variable {H : Type} {enc : TypeId × Value → H} {W : World}
set_option maxRecDepth 100000 in
/-- A cell of type []uint32 that reads. -/
theorem open_row {fuel : Nat} {v : Value} {y : DataW H × List MemPlace} (hf : DataW.trod enc Tryd.prog W 0 (fun _ => true) true fuel 22 [v] = some y) :
    ∃ A n c l, v = .slice A n c ∧ Sl W A n c l ∧ n + 1 ≤ Rows.uptoBulk y.1 := by
  rcases open_ints Tryd.underlying22 Tryd.underlying65 cellsU32 hf with ⟨hcs, hx⟩ | ⟨a, len, cap, zs, hcs, _, hl, hm, hz, hx, hcell, hwz⟩
  · simp at hcs
    subst hcs
    subst hx
    exact ⟨none, 0, 0, [], rfl, Sl.nil _ _ _, by simp [Rows.uptoBulk]⟩
  · simp at hcs
    subst hcs
    subst hx
    simp only [if_true] at hz
    have hb : ∀ k, k < zs.length → 0 ≤ zs.getD k 0 ∧ zs.getD k 0 < 4294967296 := fun k hk => by
      have e : zs.getD k 0 = zs[k] := by simp [List.getD, hk]
      rw [e]
      have := bounds_u32 (hwz zs[k] (List.getElem_mem hk))
      omega
    have hlen : (limbs (zs.take len)).length = len := by simp [limbs]; omega
    refine ⟨some a, len, cap, limbs (zs.take len), rfl, ⟨hlen, hl, ?_, ?_⟩, ?_⟩
    · refine N.Lim.of_dg fun k hk => ?_
      rw [hlen] at hk
      have e : (zs.take len).getD k 0 = zs.getD k 0 := by simp [List.getD, hk]
      have h1 := hb k (by omega)
      have h2 := limbs_dg (zs.take len) k (by simp; omega) (by rw [e]; exact h1.1)
      rw [e] at h2; omega
    · intro hn
      obtain ⟨b, off, spot⟩ := a
      have hspot : spot = none := by simpa [Addr.add] using World.cell?_spot (hcell 0 (by omega))
      subst hspot
      refine ⟨b, off, rfl, fun k hk => ?_⟩
      have e : (zs.take len).getD k 0 = zs.getD k 0 := by simp [List.getD, hk]
      have h1 := hb k (by omega)
      have h2 := limbs_dg (zs.take len) k (by simp; omega) (by rw [e]; exact h1.1)
      have h3 := hcell k (by omega)
      rw [Addr.add_lit] at h3
      rw [h3, h2, e]
    · have h1 : ∀ (l : List Int), (lits (H := H) .u32 l).length ≤ Rows.uptoBulkAll (lits (H := H) .u32 l) := by
        intro l
        induction l with
        | nil => simp [lits, Rows.uptoBulkAll]
        | cons x l ih => simp only [lits, List.map_cons, List.length_cons, Rows.uptoBulkAll, Rows.uptoBulk] at ih ⊢; omega
      have h2 := h1 (zs.take len)
      simp only [lits, List.length_map, List.length_take] at h2
      simp only [Rows.uptoBulk, lits]
      omega
theorem bulk_all (l : List (DataW H)) (h : ∀ d ∈ l, 1 ≤ Rows.uptoBulk d) : l.length ≤ Rows.uptoBulkAll l := by
  induction l with
  | nil => exact Nat.zero_le _
  | cons d l ih =>
    have h1 := ih fun x hx => h x (List.mem_cons_of_mem _ hx)
    have h2 := h d (List.mem_cons_self ..)
    simp only [Rows.uptoBulkAll, List.length_cons]
    omega
/-- One of the data is bulky: so are all together. -/
theorem bulk_one (l : List (DataW H)) (h : ∀ d ∈ l, 1 ≤ Rows.uptoBulk d) (i : Nat) (hi : i < l.length) : l.length - 1 + Rows.uptoBulk l[i] ≤ Rows.uptoBulkAll l := by
  induction l generalizing i with
  | nil => exact absurd hi (Nat.not_lt_zero _)
  | cons d l ih =>
    have h0 : ∀ x ∈ l, 1 ≤ Rows.uptoBulk x := fun x hx => h x (List.mem_cons_of_mem _ hx)
    have h2 := h d (List.mem_cons_self ..)
    cases i with
    | zero =>
      have h1 := bulk_all l h0
      simp only [Rows.uptoBulkAll, List.length_cons, List.getElem_cons_zero]
      omega
    | succ i =>
      have hi' : i < l.length := by simpa using hi
      have h1 := ih h0 i hi'
      simp only [Rows.uptoBulkAll, List.length_cons, List.getElem_cons_succ]
      omega
set_option maxRecDepth 100000 in
theorem open_list {base : Nat} {v : Value} {d : DataW H} {p : List MemPlace} (hval : Value.okWide Tryd.prog W .any base 44 v) (h : DataW.Trod enc Tryd.prog W 0 (fun _ => true) true 44 v d p) (hlt : ∀ x ∈ p, x.block < W.heap.size) :
    (∃ A n c K raws, v = .slice A n c ∧ ArrR W A n K raws ∧ n + K ≤ Rows.uptoBulk d) ∧
      ∀ W', Below W.heap.size W W' → DataW.Trod enc Tryd.prog W' 0 (fun b => decide (b < W.heap.size)) true 44 v d p := by
  refine ⟨?_, fun W' hb => Below.trod laidOut (by kernel_rfl) (of_decide_eq_true (by kernel_rfl)) h hb hlt⟩
  obtain ⟨a0, len, cap, rfl⟩ := okWide_slice Tryd.underlying44 hval
  obtain ⟨fuel, hf⟩ := h
  rcases Go.Deep.open_slice_pairs Tryd.underlying44 Tryd.underlying24 cellsInt rfl rfl (by kernel_rfl) (by kernel_rfl) hf with ⟨hcs, hx⟩ | ⟨a, len', cap', m, n, V0, V1, D0, D1, P0, P1, hcs, _, hl, _, hm, hx, hall⟩
  · simp [Value.cells] at hcs
    obtain ⟨rfl, rfl, rfl⟩ := hcs
    simp only [Prod.mk.injEq] at hx
    obtain ⟨rfl, rfl⟩ := hx
    exact ⟨none, 0, 0, 0, [], rfl, ⟨rfl, fun h => absurd h (by omega)⟩, by simp [Rows.uptoBulk]⟩
  · simp [Value.cells] at hcs
    obtain ⟨rfl, rfl, rfl⟩ := hcs
    simp only [Prod.mk.injEq] at hx
    obtain ⟨rfl, rfl⟩ := hx
    simp only [if_true] at hm
    subst hm
    have each : ∀ i, i < len → ∃ s : Bool, ∃ B k c l, V0 i = .bool s ∧ V1 i = .slice B k c ∧ Sl W B k c l ∧ k + 1 ≤ Rows.uptoBulk (D1 i) := fun i hi => by
      obtain ⟨_, _, h0, h1⟩ := hall i (by omega)
      obtain ⟨s, hs, _⟩ := DataW.trod_bool Tryd.underlying4 h0
      obtain ⟨B, k, c, l, e, hsl, hk⟩ := open_row h1
      exact ⟨s, B, k, c, l, by simpa using hs, e, hsl, hk⟩
    obtain ⟨q, hq⟩ : ∃ q : Nat → Bool × List Nat, ∀ i, i < len → ∃ B k c, V0 i = .bool (q i).1 ∧ V1 i = .slice B k c ∧ Sl W B k c (q i).2 ∧ k + 1 ≤ Rows.uptoBulk (D1 i) := by
      have := Go.Deep.choose_lt (n := len) (p := fun i (x : Bool × List Nat) => ∃ B k c, V0 i = .bool x.1 ∧ V1 i = .slice B k c ∧ Sl W B k c x.2 ∧ k + 1 ≤ Rows.uptoBulk (D1 i)) (fun i hi => by
        obtain ⟨s, B, k, c, l, h⟩ := each i hi
        exact ⟨(s, l), B, k, c, h⟩)
      exact this
    have hone : ∀ d ∈ (List.range len).map (fun i => DataW.agg [D0 i, D1 i]), 1 ≤ Rows.uptoBulk d := fun d hd => by
      obtain ⟨i, _, rfl⟩ := List.mem_map.1 hd
      simp only [Rows.uptoBulk]
      omega
    have hget : ∀ i, i < len → ((List.range len).map q).getD i (false, []) = q i := fun i hi => by simp [List.getD, hi]
    have hbulk : ∀ i, i < len → len + Rows.uptoBulk (D1 i) ≤ Rows.uptoBulkAll ((List.range len).map (fun i => DataW.agg [D0 i, D1 i])) := fun i hi => by
      have h1 := bulk_one _ hone i (by simpa using hi)
      simp only [List.length_map, List.length_range, List.getElem_map, List.getElem_range, Rows.uptoBulk, Rows.uptoBulkAll] at h1
      omega
    have hall0 := bulk_all _ hone
    simp only [List.length_map, List.length_range] at hall0
    refine ⟨some a, len, _, Rows.uptoBulkAll ((List.range len).map (fun i => DataW.agg [D0 i, D1 i])) - len, (List.range len).map q, rfl, ⟨by simp, fun hn => ?_⟩, ?_⟩
    · obtain ⟨b, off, spot⟩ := a
      have hspot : spot = none := by simpa [Addr.add] using World.cell?_spot (hall 0 (by omega)).1
      subst hspot
      refine ⟨b, off, rfl, fun i hi => ?_⟩
      obtain ⟨g0, g1, _, _⟩ := hall i (by omega)
      obtain ⟨B, k, c, e0, e1, hsl, hk⟩ := hq i hi
      rw [Addr.add_lit] at g0 g1
      rw [hget i hi]
      have hbi := hbulk i hi
      refine ⟨B, k, c, by rw [g0, e0], ?_, B, k, c, rfl, Pl.any _, hsl, by omega⟩
      rw [Nat.add_assoc, g1, e1]
    · simp only [Rows.uptoBulk]
      omega
end
end Go.Proofs.YtiidghfkdjefgaaDoor

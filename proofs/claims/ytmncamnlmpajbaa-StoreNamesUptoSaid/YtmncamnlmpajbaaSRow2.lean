/-
  Append of a tree, run; as a step of a region that draws its order.
-/
import Derived.Test.YtmncamnlmpajbaaSNorm
import Derived.Deep.RegionLaw
namespace Go.Proofs.Ytmncamnlmpajbaa
open Go.RowKit

/-- 'append(out, x)', run. -/
theorem run_append_kid {P : Program} (w : World) (t u : TypeId)
    (base : Nat) (i : TypeInfo) (ht : P.underlying t = some (.slice 35)) (hi : P.info? 35 = some i) (hz : i.zero = some (.agg #[.int .i64 0, .string ⟨#[]⟩, .slice none 0 0, .bool false, .slice none 0 0, .slice none 0 0])) (hsize : i.size = 6) (hby : i.bytes = 104)
    (v : Value) (rs : List Kc) (hown : OutK w base v rs)
    (g c : Nat) (r : Kc) (hc : ∀ j u, (kcl r)[j]? = some u → w.cell? ⟨g, j, none⟩ = some u) (hone : ∀ u ∈ kcl r, u.oneCell' = true)
    (hb : rs.length < 1048576) (hbase : base ≤ w.heap.size) :
    ∃ g' cap w', (Builtin.append_ #[t, t] u #[v, .slice (some ⟨g, 0, none⟩) 1 c]).run P w = .ok (.slice (some ⟨g', 0, none⟩) (rs.length + 1) cap) w' ∧ OutK w' base (.slice (some ⟨g', 0, none⟩) (rs.length + 1) cap) (rs ++ [r]) ∧ w.grownBy w' v.ownBlock ∧ (v.ownBlock = some g' ∨ w.heap.size ≤ g') := by
  have hnews : ∀ j u, (kcl r)[j]? = some u → w.cell? ((⟨g, 0, none⟩ : Addr).add j) = some u := fun j u hu => by rw [Addr.add_lit, Nat.zero_add]; exact hc j u hu
  have hzc : ∀ k, (Builtin.zeroCells (Value.cells (.agg #[.int .i64 0, .string ⟨#[]⟩, .slice none 0 0, .bool false, .slice none 0 0, .slice none 0 0])) k).toList = kzs k := fun k => rfl
  rcases hown with ⟨rfl, rfl⟩ | ⟨g0, cap, cur, rfl, a1, a2, a3, a4, a5⟩
  · have hrn := run_append_nil (P := P) (w := w) t u 35 i _ ht hi hz ⟨g, 0, none⟩ 1 c (kcl r) (by rw [hsize]; rfl) hnews (by omega) (by omega) (by rw [hby]; omega)
    refine ⟨_, _, _, hrn, .inr ⟨_, _, _, rfl, hbase, heap_alloc_new w.drew _, grownCap_ge w 1 0 _, grownCap_le_maxLen w 1 0 _ (by unfold maxLen; omega), ?_⟩, ⟨rfl, rfl, rfl, by simp, fun k hk _ => heap_alloc_old w.drew _ hk⟩, .inr (Nat.le_refl _)⟩
    rw [Array.toList_append, hzc]
    simp [kcs]
  · by_cases hroom : rs.length + 1 ≤ cap
    · have hcs := OutK.size (w := w) a5 a3 a2
      have hrn := run_append_room (P := P) w t u 35 i ht hi g0 rs.length cap cur a2 ⟨g, 0, none⟩ 1 c (kcl r) (by rw [hsize]; rfl) hnews hone hroom (by rw [hsize, hcs, show (kcl r).length = 6 from rfl]; omega)
      refine ⟨g0, cap, _, hrn, .inr ⟨g0, cap, _, by rw [List.length_append]; rfl, a1, setRow_heap _ _ _ _ _ _ a2, by rw [List.length_append]; exact hroom, a4, ?_⟩, ⟨rfl, rfl, rfl, by simp, fun k hk hne => setRow_other w g0 k _ (fun e => hne (by simp [Value.ownBlock, e]))⟩, .inl rfl⟩
      rw [List.toList_toArray, a5, hsize, show (kcl r).length = 6 from rfl, List.take_append_of_le_length (by rw [kcs_length]; omega), List.take_of_length_le (by rw [kcs_length]; omega), List.drop_append, kcs_append]
      rw [List.drop_of_length_le (by rw [kcs_length]; omega), kcs_length, show rs.length * 6 + 6 - rs.length * 6 = 6 by omega, List.nil_append]
      obtain ⟨k, hk⟩ : ∃ k, cap - rs.length = k + 1 := ⟨cap - rs.length - 1, by omega⟩
      rw [hk, kzs_drop, List.length_append, show cap - (rs.length + [r].length) = k by simp; omega]
      simp [kcs]
    · have hcl : ∀ j u, (kcs rs)[j]? = some u → w.cell? ((⟨g0, 0, none⟩ : Addr).add j) = some u := fun j u hu => by
        have hj := (List.getElem?_eq_some_iff.1 hu).1
        rw [Addr.add_lit, Nat.zero_add, cell_of_row _ _ _ _ _ _ a2, ← Array.getElem?_toList, a5, List.getElem?_append_left hj, hu]
      have hrn := run_append_grow (P := P) (w := w) t u 35 i _ ht hi hz ⟨g0, 0, none⟩ rs.length cap (kcs rs) (by rw [hsize, kcs_length]) hcl ⟨g, 0, none⟩ 1 c (kcl r) (by rw [hsize]; rfl) hnews (by omega) (by omega) (by rw [hby]; exact growslice_fits (by omega) (by omega))
      refine ⟨_, _, _, hrn, .inr ⟨_, _, _, by rw [List.length_append]; rfl, hbase, heap_alloc_new w.drew _, by rw [List.length_append]; exact grownCap_ge w (rs.length + 1) cap _, grownCap_le_maxLen w (rs.length + 1) cap _ (by unfold maxLen; omega), ?_⟩, ⟨rfl, rfl, rfl, by simp, fun k hk _ => heap_alloc_old w.drew _ hk⟩, .inr (Nat.le_refl _)⟩
      rw [Array.toList_append, Array.toList_append, hzc, kcs_append, List.length_append]
      simp [kcs]
/-- The same as a step of a region that draws. -/
theorem step_append_kid {P : Program} {ops : Array Oper} {o : Oper} {a : Act} {w : World} {K : Act → World → Prop} {Q : Exit → Act → World → Prop} {E : Prop} (hgd : o.guard = none) (s x : Operand) (t : TypeId)
    (ho : o.op = .call { callee := .builtin .append, args := #[s, x], argTypes := #[t, t] })
    (base : Nat) (i : TypeInfo) (ht : P.underlying t = some (.slice 35)) (hi : P.info? 35 = some i) (hz : i.zero = some (.agg #[.int .i64 0, .string ⟨#[]⟩, .slice none 0 0, .bool false, .slice none 0 0, .slice none 0 0])) (hsize : i.size = 6) (hby : i.bytes = 104)
    (v : Value) (rs : List Kc) (hs : a.eval s = v) (hown : OutK w base v rs)
    (g c : Nat) (r : Kc) (hx : a.eval x = .slice (some ⟨g, 0, none⟩) 1 c) (hc : ∀ j u, (kcl r)[j]? = some u → w.cell? ⟨g, j, none⟩ = some u) (hone : ∀ u ∈ kcl r, u.oneCell' = true)
    (hb : rs.length < 1048576) (hbase : base ≤ w.heap.size)
    (h : ∀ g' cap w', OutK w' base (.slice (some ⟨g', 0, none⟩) (rs.length + 1) cap) (rs ++ [r]) → w.grownBy w' v.ownBlock → (v.ownBlock = some g' ∨ w.heap.size ≤ g') → K (a.put o.dst (.slice (some ⟨g', 0, none⟩) (rs.length + 1) cap)) w') :
    if Region.wanted o (yielded ops a.tmps) = true then Oper.wp P o a w K Q else E := by
  have hw : Region.wanted o (yielded ops a.tmps) = true := by simp [Region.wanted, hgd]
  rw [if_pos hw]
  obtain ⟨g', cap', w', hrun, k1, k2, k3⟩ := run_append_kid (P := P) w t o.type base i ht hi hz hsize hby v rs hown g c r hc hone hb hbase
  unfold Oper.wp execOp
  simp only [ho, resolve, invoke, builtin, Sem.run_bind, Sem.run_pure, Result.andThen_ok, List.map_toArray, List.map_cons, List.map_nil, hs, hx, hrun]
  exact h g' cap' w' k1 k2 k3
end Go.Proofs.Ytmncamnlmpajbaa

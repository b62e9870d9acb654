/-
  A row of trees, made by append.
-/
import Derived.Test.YtmncamnlmpajbaaSTree
import Derived.Laws.AppendOwn
namespace Go.Proofs.Ytmncamnlmpajbaa
open Go.RowKit

theorem info_tree : (Try.prog.info? 35).map (fun i => (i.zero, i.size, i.bytes)) = some (some (.agg #[.int .i64 0, .string ⟨#[]⟩, .slice none 0 0, .bool false, .slice none 0 0, .slice none 0 0]), 6, 104) := by kernel_rfl
/-- A tree's six cells. -/
abbrev Kc := Value × Value × Value × Value × Value × Value
def kcl (r : Kc) : List Value := [r.1, r.2.1, r.2.2.1, r.2.2.2.1, r.2.2.2.2.1, r.2.2.2.2.2]
def kc0 : Kc := (.int .i64 0, .string ⟨#[]⟩, .slice none 0 0, .bool false, .slice none 0 0, .slice none 0 0)
def kcs (rs : List Kc) : List Value := rs.flatMap kcl
def kz6 : Array Value := #[.int .i64 0, .string ⟨#[]⟩, .slice none 0 0, .bool false, .slice none 0 0, .slice none 0 0]
def kzs (k : Nat) : List Value := (Builtin.zeroCells kz6 k).toList
theorem kcs_length (rs : List Kc) : (kcs rs).length = rs.length * 6 := by
  induction rs with
  | nil => rfl
  | cons r rs ih => simp only [kcs, List.flatMap_cons, List.length_append, kcl, List.length_cons, List.length_nil] at ih ⊢; omega
theorem kcs_append (a b : List Kc) : kcs (a ++ b) = kcs a ++ kcs b := by simp [kcs]
theorem kcs_get (rs : List Kc) (i j : Nat) (h : i < rs.length) (hj : j < 6) : (kcs rs)[i * 6 + j]? = (kcl (rs.getD i kc0))[j]? := by
  induction rs generalizing i with
  | nil => simp at h
  | cons r rs ih =>
    have e : kcs (r :: rs) = kcl r ++ kcs rs := rfl
    have hl : (kcl r).length = 6 := rfl
    cases i with
    | zero => rw [e, List.getElem?_append_left (by rw [hl]; omega)]; simp [List.getD]
    | succ i =>
      rw [e, List.getElem?_append_right (by rw [hl]; omega), hl, show (i + 1) * 6 + j - 6 = i * 6 + j by omega, ih i (by simpa using h)]
      simp [List.getD]
theorem kzs_length (k : Nat) : (kzs k).length = k * 6 := by simp [kzs, Builtin.zeroCells, kz6]
theorem kzs_get (k j : Nat) (h : j < k * 6) : (kzs k)[j]? = some (kz6[j % 6]!) := by
  simp [kzs, Builtin.zeroCells, kz6, h]
theorem kzs_drop (k : Nat) : (kzs (k + 1)).drop 6 = kzs k := by
  apply List.ext_getElem?
  intro j
  rw [List.getElem?_drop]
  rcases Nat.lt_or_ge j (k * 6) with h | h
  · rw [kzs_get _ _ (by omega), kzs_get _ _ h, show (6 + j) % 6 = j % 6 by omega]
  · rw [List.getElem?_eq_none (by rw [kzs_length]; omega), List.getElem?_eq_none (by rw [kzs_length]; omega)]
/-- The row of a call's own that holds trees; behind them room of noughts. -/
def OutK (w : World) (base : Nat) (v : Value) (rs : List Kc) : Prop := (v = .slice none 0 0 ∧ rs = []) ∨
  ∃ g cap cur, v = .slice (some ⟨g, 0, none⟩) rs.length cap ∧ base ≤ g ∧ w.heap[g]? = some (.cells cur 35 (0, 0)) ∧ rs.length ≤ cap ∧ cap ≤ maxLen ∧ cur.toList = kcs rs ++ kzs (cap - rs.length)
section
variable {w w' : World} {base : Nat} {v : Value} {rs : List Kc}
theorem OutK.nil (w : World) (base : Nat) : OutK w base (.slice none 0 0) [] := .inl ⟨rfl, rfl⟩
theorem OutK.kept (h : OutK w base v rs) {row : Option Nat} (hg : w.grownBy w' row) (hne : v.ownBlock = none ∨ v.ownBlock ≠ row) : OutK w' base v rs := by
  rcases h with h | ⟨g, cap, cur, rfl, h1, h2, h3⟩
  · exact .inl h
  · refine .inr ⟨g, cap, cur, rfl, h1, (hg.block g (Array.getElem?_eq_some_iff.1 h2).1 ?_).trans h2, h3⟩
    rcases hne with hne | hne
    · cases hne
    · exact hne
theorem OutK.below (h : OutK w base v rs) (hb : Below w.heap.size w w') : OutK w' base v rs := h.kept (gb_of_below hb none) (by cases v.ownBlock <;> simp)
theorem OutK.le (h : OutK w base v rs) {base' : Nat} (hb : base' ≤ base) : OutK w base' v rs := by
  rcases h with h | ⟨g, cap, cur, rfl, h1, h2⟩
  · exact .inl h
  · exact .inr ⟨g, cap, cur, rfl, Nat.le_trans hb h1, h2⟩
theorem OutK.size {g cap : Nat} {cur : Array Value} (hc : cur.toList = kcs rs ++ kzs (cap - rs.length)) (hle : rs.length ≤ cap) (_ : w.heap[g]? = some (.cells cur 35 (0, 0))) : cur.size = cap * 6 := by
  have := congrArg List.length hc
  rw [List.length_append, kcs_length, kzs_length, Array.length_toList] at this
  omega
/-- Each tree's cells. -/
theorem OutK.cells (h : OutK w base v rs) (hn : 0 < rs.length) : ∃ g cap, v = .slice (some ⟨g, 0, none⟩) rs.length cap ∧ ∀ i, i < rs.length → ∀ j, j < 6 → w.cell? ⟨g, i * 6 + j, none⟩ = (kcl (rs.getD i kc0))[j]? := by
  rcases h with ⟨_, h⟩ | ⟨g, cap, cur, rfl, h1, h2, h3, h4, h5⟩
  · rw [h] at hn; exact absurd hn (by simp)
  · refine ⟨g, cap, rfl, fun i hi j hj => ?_⟩
    rw [cell_of_row _ _ _ _ _ _ h2, ← Array.getElem?_toList, h5, List.getElem?_append_left (by rw [kcs_length]; omega), kcs_get _ _ _ hi hj]
theorem OutK.slice (h : OutK w base v rs) : ∃ A c, v = .slice A rs.length c := by
  rcases h with ⟨rfl, rfl⟩ | ⟨g, cap, cur, rfl, _⟩
  · exact ⟨none, 0, rfl⟩
  · exact ⟨_, _, rfl⟩
end
/-- 'append(out, x)', x laid in a list of its own. -/
theorem wpList_append_kid {P : Program} (w : World) {ops : Array Oper} {rest : List Oper} {o : Oper} {a : Act} {Q : Exit → Act → World → Prop} (hgd : o.guard = none) (s x : Operand) (t : TypeId)
    (ho : o.op = .call { callee := .builtin .append, args := #[s, x], argTypes := #[t, t] })
    (base : Nat) (i : TypeInfo) (ht : P.underlying t = some (.slice 35)) (hi : P.info? 35 = some i) (hz : i.zero = some (.agg #[.int .i64 0, .string ⟨#[]⟩, .slice none 0 0, .bool false, .slice none 0 0, .slice none 0 0])) (hsize : i.size = 6) (hby : i.bytes = 104)
    (v : Value) (rs : List Kc) (hs : a.eval s = v) (hown : OutK w base v rs)
    (g c : Nat) (r : Kc) (hx : a.eval x = .slice (some ⟨g, 0, none⟩) 1 c) (hc : ∀ j u, (kcl r)[j]? = some u → w.cell? ⟨g, j, none⟩ = some u) (hone : ∀ u ∈ kcl r, u.oneCell' = true)
    (hb : rs.length < 1048576) (hbase : base ≤ w.heap.size)
    (h : ∀ g' cap w', OutK w' base (.slice (some ⟨g', 0, none⟩) (rs.length + 1) cap) (rs ++ [r]) → w.grownBy w' v.ownBlock → (v.ownBlock = some g' ∨ w.heap.size ≤ g') → wpList P ops Q rest (a.put o.dst (.slice (some ⟨g', 0, none⟩) (rs.length + 1) cap)) w') : wpList P ops Q (o :: rest) a w := by
  refine wpList_plain hgd fun K hK => ?_
  have hnews : ∀ j u, (kcl r)[j]? = some u → w.cell? ((⟨g, 0, none⟩ : Addr).add j) = some u := fun j u hu => by rw [Addr.add_lit, Nat.zero_add]; exact hc j u hu
  have key : ∃ g' cap w', (Builtin.append_ #[t, t] o.type #[v, .slice (some ⟨g, 0, none⟩) 1 c]).run P w = .ok (.slice (some ⟨g', 0, none⟩) (rs.length + 1) cap) w' ∧ OutK w' base (.slice (some ⟨g', 0, none⟩) (rs.length + 1) cap) (rs ++ [r]) ∧ w.grownBy w' v.ownBlock ∧ (v.ownBlock = some g' ∨ w.heap.size ≤ g') := by
    have hzc : ∀ k, (Builtin.zeroCells (Value.cells (.agg #[.int .i64 0, .string ⟨#[]⟩, .slice none 0 0, .bool false, .slice none 0 0, .slice none 0 0])) k).toList = kzs k := fun k => rfl
    rcases hown with ⟨rfl, rfl⟩ | ⟨g0, cap, cur, rfl, a1, a2, a3, a4, a5⟩
    · have hrn := run_append_nil (P := P) (w := w) t o.type 35 i _ ht hi hz ⟨g, 0, none⟩ 1 c (kcl r) (by rw [hsize]; rfl) hnews (by omega) (by omega) (by rw [hby]; omega)
      refine ⟨_, _, _, hrn, .inr ⟨_, _, _, rfl, hbase, heap_alloc_new w.drew _, grownCap_ge w 1 0 _, grownCap_le_maxLen w 1 0 _ (by unfold maxLen; omega), ?_⟩, ⟨rfl, rfl, rfl, by simp, fun k hk _ => heap_alloc_old w.drew _ hk⟩, .inr (Nat.le_refl _)⟩
      rw [Array.toList_append, hzc]
      simp [kcs]
    · by_cases hroom : rs.length + 1 ≤ cap
      · have hcs := OutK.size (w := w) a5 a3 a2
        have hrn := run_append_room (P := P) w t o.type 35 i ht hi g0 rs.length cap cur a2 ⟨g, 0, none⟩ 1 c (kcl r) (by rw [hsize]; rfl) hnews hone hroom (by rw [hsize, hcs, show (kcl r).length = 6 from rfl]; omega)
        refine ⟨_, _, _, hrn, .inr ⟨g0, cap, _, by rw [List.length_append]; rfl, a1, setRow_heap _ _ _ _ _ _ a2, by rw [List.length_append]; exact hroom, a4, ?_⟩, ⟨rfl, rfl, rfl, by simp, fun k _ hk => setRow_other w g0 k _ (fun e => hk (by simp [Value.ownBlock, e]))⟩, .inl rfl⟩
        rw [List.toList_toArray, a5, hsize, show (kcl r).length = 6 from rfl, List.take_append_of_le_length (by rw [kcs_length]; omega), List.take_of_length_le (by rw [kcs_length]; omega), List.drop_append, kcs_append]
        rw [List.drop_of_length_le (by rw [kcs_length]; omega), kcs_length, show rs.length * 6 + 6 - rs.length * 6 = 6 by omega, List.nil_append]
        obtain ⟨k, hk⟩ : ∃ k, cap - rs.length = k + 1 := ⟨cap - rs.length - 1, by omega⟩
        rw [hk, kzs_drop, List.length_append, show cap - (rs.length + [r].length) = k by simp; omega]
        simp [kcs]
      · have hcl : ∀ j u, (kcs rs)[j]? = some u → w.cell? ((⟨g0, 0, none⟩ : Addr).add j) = some u := fun j u hu => by
          have hj := (List.getElem?_eq_some_iff.1 hu).1
          rw [Addr.add_lit, Nat.zero_add, cell_of_row _ _ _ _ _ _ a2, ← Array.getElem?_toList, a5, List.getElem?_append_left hj, hu]
        have hrn := run_append_grow (P := P) (w := w) t o.type 35 i _ ht hi hz ⟨g0, 0, none⟩ rs.length cap (kcs rs) (by rw [hsize, kcs_length]) hcl ⟨g, 0, none⟩ 1 c (kcl r) (by rw [hsize]; rfl) hnews (by omega) (by omega) (by rw [hby]; exact growslice_fits (by omega) (by omega))
        refine ⟨_, _, _, hrn, .inr ⟨_, _, _, by rw [List.length_append]; rfl, hbase, heap_alloc_new w.drew _, by rw [List.length_append]; exact grownCap_ge w (rs.length + 1) cap _, grownCap_le_maxLen w (rs.length + 1) cap _ (by unfold maxLen; omega), ?_⟩, ⟨rfl, rfl, rfl, by simp, fun k hk _ => heap_alloc_old w.drew _ hk⟩, .inr (Nat.le_refl _)⟩
        rw [Array.toList_append, Array.toList_append, hzc, kcs_append, List.length_append]
        simp [kcs]
  obtain ⟨g', cap', w', hrun, k1, k2, k3⟩ := key
  unfold Oper.wp execOp
  simp only [ho, resolve, invoke, builtin, Sem.run_bind, Sem.run_pure, Result.andThen_ok, List.map_toArray, List.map_cons, List.map_nil, hs, hx, hrun]
  exact hK _ _ (h g' cap' w' k1 k2 k3)
end Go.Proofs.Ytmncamnlmpajbaa

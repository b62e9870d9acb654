/-
  A row of words, made by append.
-/
import Derived.Test.YtkioaogpmifgeaaDoorLexB
import Derived.Laws.AppendOwn
namespace Go.Proofs.YtkioaogpmifgeaaDoor
open Go.RowKit

theorem info_tok : (Tryd.prog.info? 44).map (fun i => (i.zero, i.size, i.bytes)) = some (some (.agg #[.int .i64 0, .string ⟨#[]⟩, .bool false, .slice none 0 0, .int .i64 0]), 5, 64) := by kernel_rfl
/-- A word: kind, text, the number's list, place. -/
abbrev Tk := Nat × ByteArray × Value × Nat
def tk (r : Tk) : List Value := [.int .i64 (r.1 : Nat), .string r.2.1, .bool false, r.2.2.1, .int .i64 (r.2.2.2 : Nat)]
def tk0 : Tk := (0, ⟨#[]⟩, .slice none 0 0, 0)
def tcs (rs : List Tk) : List Value := rs.flatMap tk
def tz5 : Array Value := #[.int .i64 0, .string ⟨#[]⟩, .bool false, .slice none 0 0, .int .i64 0]
def zs (k : Nat) : List Value := (Builtin.zeroCells tz5 k).toList
theorem tcs_length (rs : List Tk) : (tcs rs).length = rs.length * 5 := by
  induction rs with
  | nil => rfl
  | cons r rs ih => simp only [tcs, List.flatMap_cons, List.length_append, tk, List.length_cons, List.length_nil] at ih ⊢; omega
theorem tcs_append (a b : List Tk) : tcs (a ++ b) = tcs a ++ tcs b := by simp [tcs]
theorem tcs_get (rs : List Tk) (i j : Nat) (h : i < rs.length) (hj : j < 5) : (tcs rs)[i * 5 + j]? = (tk (rs.getD i tk0))[j]? := by
  induction rs generalizing i with
  | nil => simp at h
  | cons r rs ih =>
    have e : tcs (r :: rs) = tk r ++ tcs rs := rfl
    have hl : (tk r).length = 5 := rfl
    cases i with
    | zero => rw [e, List.getElem?_append_left (by rw [hl]; omega)]; simp [List.getD]
    | succ i =>
      rw [e, List.getElem?_append_right (by rw [hl]; omega), hl, show (i + 1) * 5 + j - 5 = i * 5 + j by omega, ih i (by simpa using h)]
      simp [List.getD]
theorem zs_length (k : Nat) : (zs k).length = k * 5 := by simp [zs, Builtin.zeroCells, tz5]
theorem zs_get (k j : Nat) (h : j < k * 5) : (zs k)[j]? = some (tz5[j % 5]!) := by
  simp [zs, Builtin.zeroCells, tz5, h]
theorem zs_drop (k : Nat) : (zs (k + 1)).drop 5 = zs k := by
  apply List.ext_getElem?
  intro j
  rw [List.getElem?_drop]
  rcases Nat.lt_or_ge j (k * 5) with h | h
  · rw [zs_get _ _ (by omega), zs_get _ _ h, show (5 + j) % 5 = j % 5 by omega]
  · rw [List.getElem?_eq_none (by rw [zs_length]; omega), List.getElem?_eq_none (by rw [zs_length]; omega)]
/-- The row of a call's own that holds words; behind them room of noughts. -/
def OutT (w : World) (base : Nat) (v : Value) (rs : List Tk) : Prop := (v = .slice none 0 0 ∧ rs = []) ∨
  ∃ g cap cur, v = .slice (some ⟨g, 0, none⟩) rs.length cap ∧ base ≤ g ∧ w.heap[g]? = some (.cells cur 44 (0, 0)) ∧ rs.length ≤ cap ∧ cap ≤ maxLen ∧ cur.toList = tcs rs ++ zs (cap - rs.length)
section
variable {w w' : World} {base : Nat} {v : Value} {rs : List Tk}
theorem OutT.nil (w : World) (base : Nat) : OutT w base (.slice none 0 0) [] := .inl ⟨rfl, rfl⟩
theorem OutT.kept (h : OutT w base v rs) {row : Option Nat} (hg : w.grownBy w' row) (hne : v.ownBlock = none ∨ v.ownBlock ≠ row) : OutT w' base v rs := by
  rcases h with h | ⟨g, cap, cur, rfl, h1, h2, h3⟩
  · exact .inl h
  · refine .inr ⟨g, cap, cur, rfl, h1, (hg.block g (Array.getElem?_eq_some_iff.1 h2).1 ?_).trans h2, h3⟩
    rcases hne with hne | hne
    · cases hne
    · exact hne
theorem OutT.below (h : OutT w base v rs) (hb : Below w.heap.size w w') : OutT w' base v rs := h.kept (gb_of_below hb none) (by cases v.ownBlock <;> simp)
theorem OutT.le (h : OutT w base v rs) {base' : Nat} (hb : base' ≤ base) : OutT w base' v rs := by
  rcases h with h | ⟨g, cap, cur, rfl, h1, h2⟩
  · exact .inl h
  · exact .inr ⟨g, cap, cur, rfl, Nat.le_trans hb h1, h2⟩
theorem OutT.size {g cap : Nat} {cur : Array Value} (hc : cur.toList = tcs rs ++ zs (cap - rs.length)) (hle : rs.length ≤ cap) (_ : w.heap[g]? = some (.cells cur 44 (0, 0))) : cur.size = cap * 5 := by
  have := congrArg List.length hc
  rw [List.length_append, tcs_length, zs_length, Array.length_toList] at this
  omega
/-- Each word's cells. -/
theorem OutT.cells (h : OutT w base v rs) (hn : 0 < rs.length) : ∃ g cap, v = .slice (some ⟨g, 0, none⟩) rs.length cap ∧ ∀ i, i < rs.length → ∀ j, j < 5 → w.cell? ⟨g, i * 5 + j, none⟩ = (tk (rs.getD i tk0))[j]? := by
  rcases h with ⟨_, h⟩ | ⟨g, cap, cur, rfl, h1, h2, h3, h4, h5⟩
  · rw [h] at hn; exact absurd hn (by simp)
  · refine ⟨g, cap, rfl, fun i hi j hj => ?_⟩
    rw [cell_of_row _ _ _ _ _ _ h2, ← Array.getElem?_toList, h5, List.getElem?_append_left (by rw [tcs_length]; omega), tcs_get _ _ _ hi hj]
theorem OutT.slice (h : OutT w base v rs) : ∃ A c, v = .slice A rs.length c := by
  rcases h with ⟨rfl, rfl⟩ | ⟨g, cap, cur, rfl, _⟩
  · exact ⟨none, 0, rfl⟩
  · exact ⟨_, _, rfl⟩
end
theorem tk_one {r : Tk} (h : r.2.2.1.oneCell' = true) : ∀ u ∈ tk r, u.oneCell' = true := by
  intro u hu
  simp only [tk, List.mem_cons, List.not_mem_nil, or_false] at hu
  rcases hu with rfl | rfl | rfl | rfl | rfl
  all_goals first | exact h | rfl
/-- 'append(out, x)', x laid in a list of its own. -/
theorem wpList_append_tok {P : Program} (w : World) {ops : Array Oper} {rest : List Oper} {o : Oper} {a : Act} {Q : Exit → Act → World → Prop} (hgd : o.guard = none) (s x : Operand) (t : TypeId)
    (ho : o.op = .call { callee := .builtin .append, args := #[s, x], argTypes := #[t, t] })
    (base : Nat) (i : TypeInfo) (ht : P.underlying t = some (.slice 44)) (hi : P.info? 44 = some i) (hz : i.zero = some (.agg #[.int .i64 0, .string ⟨#[]⟩, .bool false, .slice none 0 0, .int .i64 0])) (hsize : i.size = 5) (hby : i.bytes = 64)
    (v : Value) (rs : List Tk) (hs : a.eval s = v) (hown : OutT w base v rs)
    (g c : Nat) (r : Tk) (hx : a.eval x = .slice (some ⟨g, 0, none⟩) 1 c) (hc : ∀ j u, (tk r)[j]? = some u → w.cell? ⟨g, j, none⟩ = some u) (h1 : r.2.2.1.oneCell' = true)
    (hb : rs.length < 1048576) (hbase : base ≤ w.heap.size)
    (h : ∀ g' cap w', OutT w' base (.slice (some ⟨g', 0, none⟩) (rs.length + 1) cap) (rs ++ [r]) → w.grownBy w' v.ownBlock → (v.ownBlock = some g' ∨ w.heap.size ≤ g') → wpList P ops Q rest (a.put o.dst (.slice (some ⟨g', 0, none⟩) (rs.length + 1) cap)) w') : wpList P ops Q (o :: rest) a w := by
  refine wpList_plain hgd fun K hK => ?_
  have hone := tk_one h1
  have hnews : ∀ j u, (tk r)[j]? = some u → w.cell? ((⟨g, 0, none⟩ : Addr).add j) = some u := fun j u hu => by rw [Addr.add_lit, Nat.zero_add]; exact hc j u hu
  have key : ∃ g' cap w', (Builtin.append_ #[t, t] o.type #[v, .slice (some ⟨g, 0, none⟩) 1 c]).run P w = .ok (.slice (some ⟨g', 0, none⟩) (rs.length + 1) cap) w' ∧ OutT w' base (.slice (some ⟨g', 0, none⟩) (rs.length + 1) cap) (rs ++ [r]) ∧ w.grownBy w' v.ownBlock ∧ (v.ownBlock = some g' ∨ w.heap.size ≤ g') := by
    have hzc : ∀ k, (Builtin.zeroCells (Value.cells (.agg #[.int .i64 0, .string ⟨#[]⟩, .bool false, .slice none 0 0, .int .i64 0])) k).toList = zs k := fun k => rfl
    rcases hown with ⟨rfl, rfl⟩ | ⟨g0, cap, cur, rfl, a1, a2, a3, a4, a5⟩
    · have hrn := run_append_nil (P := P) (w := w) t o.type 44 i _ ht hi hz ⟨g, 0, none⟩ 1 c (tk r) (by rw [hsize]; rfl) hnews (by omega) (by omega) (by rw [hby]; omega)
      refine ⟨_, _, _, hrn, .inr ⟨_, _, _, rfl, hbase, heap_alloc_new w.drew _, grownCap_ge w 1 0 _, grownCap_le_maxLen w 1 0 _ (by unfold maxLen; omega), ?_⟩, ⟨rfl, rfl, rfl, by simp, fun k hk _ => heap_alloc_old w.drew _ hk⟩, .inr (Nat.le_refl _)⟩
      rw [Array.toList_append, hzc]
      simp [tcs]
    · by_cases hroom : rs.length + 1 ≤ cap
      · have hcs := OutT.size (w := w) a5 a3 a2
        have hrn := run_append_room (P := P) w t o.type 44 i ht hi g0 rs.length cap cur a2 ⟨g, 0, none⟩ 1 c (tk r) (by rw [hsize]; rfl) hnews hone hroom (by rw [hsize, hcs, show (tk r).length = 5 from rfl]; omega)
        refine ⟨_, _, _, hrn, .inr ⟨g0, cap, _, by rw [List.length_append]; rfl, a1, setRow_heap _ _ _ _ _ _ a2, by rw [List.length_append]; exact hroom, a4, ?_⟩, ⟨rfl, rfl, rfl, by simp, fun k _ hk => setRow_other w g0 k _ (fun e => hk (by simp [Value.ownBlock, e]))⟩, .inl rfl⟩
        rw [List.toList_toArray, a5, hsize, show (tk r).length = 5 from rfl, List.take_append_of_le_length (by rw [tcs_length]; omega), List.take_of_length_le (by rw [tcs_length]; omega), List.drop_append, tcs_append]
        rw [List.drop_of_length_le (by rw [tcs_length]; omega), tcs_length, show rs.length * 5 + 5 - rs.length * 5 = 5 by omega, List.nil_append]
        obtain ⟨k, hk⟩ : ∃ k, cap - rs.length = k + 1 := ⟨cap - rs.length - 1, by omega⟩
        rw [hk, zs_drop, List.length_append, show cap - (rs.length + [r].length) = k by simp; omega]
        simp [tcs]
      · have hcl : ∀ j u, (tcs rs)[j]? = some u → w.cell? ((⟨g0, 0, none⟩ : Addr).add j) = some u := fun j u hu => by
          have hj := (List.getElem?_eq_some_iff.1 hu).1
          rw [Addr.add_lit, Nat.zero_add, cell_of_row _ _ _ _ _ _ a2, ← Array.getElem?_toList, a5, List.getElem?_append_left hj, hu]
        have hrn := run_append_grow (P := P) (w := w) t o.type 44 i _ ht hi hz ⟨g0, 0, none⟩ rs.length cap (tcs rs) (by rw [hsize, tcs_length]) hcl ⟨g, 0, none⟩ 1 c (tk r) (by rw [hsize]; rfl) hnews (by omega) (by omega) (by rw [hby]; exact growslice_fits (by omega) (by omega))
        refine ⟨_, _, _, hrn, .inr ⟨_, _, _, by rw [List.length_append]; rfl, hbase, heap_alloc_new w.drew _, by rw [List.length_append]; exact grownCap_ge w (rs.length + 1) cap _, grownCap_le_maxLen w (rs.length + 1) cap _ (by unfold maxLen; omega), ?_⟩, ⟨rfl, rfl, rfl, by simp, fun k hk _ => heap_alloc_old w.drew _ hk⟩, .inr (Nat.le_refl _)⟩
        rw [Array.toList_append, Array.toList_append, hzc, tcs_append, List.length_append]
        simp [tcs]
  obtain ⟨g', cap', w', hrun, k1, k2, k3⟩ := key
  unfold Oper.wp execOp
  simp only [ho, resolve, invoke, builtin, Sem.run_bind, Sem.run_pure, Result.andThen_ok, List.map_toArray, List.map_cons, List.map_nil, hs, hx, hrun]
  exact hK _ _ (h g' cap' w' k1 k2 k3)
end Go.Proofs.YtkioaogpmifgeaaDoor

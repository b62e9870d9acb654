/-
  Rows of kept trees beside lists of names and trees: what stays when a row is cut, joined, written.
-/
import Derived.Test.YtmncamnlmpajbaaSRGet
namespace Go.Proofs.Ytmncamnlmpajbaa
open Go.RowKit Go.Maps Go.WideMaps Go.Op

/-- Row and list, one beside the other. -/
def Pts (w : World) (R : Nat → Prop) (rs : List (ByteArray × Kc)) (L : Kl) : Prop := rs.length = L.length ∧ ∀ i, i < L.length → (rs.getD i pc0).1 = (L.getD i kd).1 ∧ T.In w R (L.getD i kd).2 (kv (rs.getD i pc0).2)
section
variable {w w' : World} {R R' : Nat → Prop} {rs rs' : List (ByteArray × Kc)} {L L' : Kl}
theorem Pts.nil (w : World) (R : Nat → Prop) : Pts w R [] [] := ⟨rfl, fun _i hi => absurd hi (Nat.not_lt_zero _)⟩
theorem Pts.one {p : ByteArray × Kc} {q : ByteArray × T} (h1 : p.1 = q.1) (h2 : T.In w R q.2 (kv p.2)) : Pts w R [p] [q] := ⟨rfl, fun i hi => by
  obtain rfl : i = 0 := by simpa using hi
  exact ⟨h1, h2⟩⟩
theorem Pts.append (h : Pts w R rs L) (h' : Pts w R rs' L') : Pts w R (rs ++ rs') (L ++ L') := by
  refine ⟨by rw [List.length_append, List.length_append, h.1, h'.1], fun i hi => ?_⟩
  by_cases hlt : i < L.length
  · have := h.2 i hlt
    have hl2 : i < rs.length := by rw [h.1]; exact hlt
    simpa [List.getD, List.getElem?_append_left hlt, List.getElem?_append_left hl2] using this
  · have := h'.2 (i - L.length) (by rw [List.length_append] at hi; omega)
    rw [← h.1] at this
    have hl2 : rs.length ≤ i := by rw [h.1]; omega
    simpa [List.getD, List.getElem?_append_right (show L.length ≤ i by omega), List.getElem?_append_right hl2, h.1] using this
theorem Pts.take (h : Pts w R rs L) (n : Nat) : Pts w R (rs.take n) (L.take n) := by
  refine ⟨by rw [List.length_take, List.length_take, h.1], fun i hi => ?_⟩
  rw [List.length_take] at hi
  have := h.2 i (by omega)
  simpa [List.getD, List.getElem?_take_of_lt (show i < n by omega)] using this
theorem Pts.drop (h : Pts w R rs L) (n : Nat) : Pts w R (rs.drop n) (L.drop n) := by
  refine ⟨by rw [List.length_drop, List.length_drop, h.1], fun i hi => ?_⟩
  rw [List.length_drop] at hi
  have := h.2 (n + i) (by omega)
  simpa [List.getD] using this
theorem Pts.set (h : Pts w R rs L) (n : Nat) {p : ByteArray × Kc} {q : ByteArray × T} (h1 : p.1 = q.1) (h2 : T.In w R q.2 (kv p.2)) : Pts w R (rs.set n p) (L.set n q) := by
  refine ⟨by rw [List.length_set, List.length_set, h.1], fun i hi => ?_⟩
  rw [List.length_set] at hi
  have hi2 : i < rs.length := by rw [h.1]; exact hi
  by_cases e : n = i
  · subst e
    simpa [List.getD, List.getElem?_set, hi, hi2] using And.intro h1 h2
  · have := h.2 i hi
    simpa [List.getD, List.getElem?_set, e] using this
theorem Pts.keep (h : Pts w R rs L) {x : Nat → Prop} (hF : Fr w w' x) (hR : ∀ b, b < w.heap.size → R b → R' b ∧ ¬ x b) : Pts w' R' rs L := ⟨h.1, fun i hi => ⟨(h.2 i hi).1, (h.2 i hi).2.turn hF hR⟩⟩
theorem Pts.one' (h : Pts w R rs L) : ∀ u ∈ prow rs, u.oneCell' = true := by
  intro u hu
  obtain ⟨p, hp, hu⟩ := List.mem_flatMap.1 hu
  obtain ⟨i, hi, rfl⟩ := List.getElem_of_mem hp
  have hin := (h.2 i (by rw [← h.1]; exact hi)).2
  have e : rs.getD i pc0 = rs[i] := by simp [List.getD, hi]
  rw [e] at hin
  obtain ⟨A1, c1, A2, c2, A3, c3, hform, _⟩ := hin.form
  obtain ⟨⟨nm, a0, a1, a2, a3, a4, a5⟩, hrs⟩ : ∃ p, rs[i] = p := ⟨_, rfl⟩
  rw [hrs] at hform hu
  injection hform with hform
  injection hform with hform
  simp only [List.cons.injEq, and_true] at hform
  obtain ⟨rfl, rfl, rfl, rfl, rfl, rfl⟩ := hform
  simp only [pcl, kcl, List.mem_cons, List.not_mem_nil, or_false] at hu
  rcases hu with rfl | rfl | rfl | rfl | rfl | rfl | rfl
  all_goals rfl
end
theorem prow_take (rs : List (ByteArray × Kc)) (n : Nat) : prow (rs.take n) = (prow rs).take (n * 7) := by
  have e := prow_append (rs.take n) (rs.drop n)
  rw [List.take_append_drop] at e
  by_cases h : n ≤ rs.length
  · have hl : (prow (rs.take n)).length = n * 7 := by rw [prow_length, List.length_take]; omega
    rw [e, ← hl, List.take_left']
    rfl
  · rw [List.take_of_length_le (by omega), List.take_of_length_le (by rw [prow_length]; omega)]
theorem prow_drop (rs : List (ByteArray × Kc)) (n : Nat) (h : n ≤ rs.length) : prow (rs.drop n) = (prow rs).drop (n * 7) := by
  have e := prow_append (rs.take n) (rs.drop n)
  rw [List.take_append_drop] at e
  have hl : (prow (rs.take n)).length = n * 7 := by rw [prow_length, List.length_take]; omega
  rw [e, ← hl, List.drop_left']
  rfl
/-- The row's cells, from a place on. -/
theorem row_news {w : World} {g : Nat} {cs : Array Value} {rs : List (ByteArray × Kc)} (hg : Blk w g 65 cs) (ht : PCs cs rs) (i : Nat) (hi : i ≤ rs.length) : ∀ j u, (prow (rs.drop i))[j]? = some u → w.cell? ⟨g, i * 7 + j, none⟩ = some u := by
  intro j u hu
  have hlt : j < (prow (rs.drop i)).length := (List.getElem?_eq_some_iff.1 hu).1
  rw [prow_length, List.length_drop] at hlt
  rw [prow_drop rs i hi, List.getElem?_drop] at hu
  have h2 := prow_get rs ((i * 7 + j) / 7) ((i * 7 + j) % 7) (by omega) (by omega)
  have h1 := ht ((i * 7 + j) / 7) (by omega) ((i * 7 + j) % 7) (by omega)
  rw [show (i * 7 + j) / 7 * 7 + (i * 7 + j) % 7 = i * 7 + j by omega] at h1 h2
  rw [hg.cell, h1, ← h2, hu]
theorem row_news0 {w : World} {g : Nat} {cs : Array Value} {rs : List (ByteArray × Kc)} (hg : Blk w g 65 cs) (ht : PCs cs rs) (n : Nat) : ∀ j u, (prow (rs.take n))[j]? = some u → w.cell? ⟨g, j, none⟩ = some u := by
  intro j u hu
  have := row_news hg ht 0 (Nat.zero_le _) j u (by
    rw [prow_take] at hu
    have hlt : j < ((prow rs).take (n * 7)).length := (List.getElem?_eq_some_iff.1 hu).1
    rw [List.length_take] at hlt
    rw [List.getElem?_take_of_lt (by omega)] at hu
    exact hu)
  rw [Nat.zero_mul, Nat.zero_add] at this
  exact this
theorem own_base7 {w : World} {b b' n : Nat} {v : Value} {xs : List Value} (h : w.ownsRow b' 65 7 v n xs) (hb : b ≤ b') : w.ownsRow b 65 7 v n xs := by
  refine ⟨h.1, ?_⟩
  rcases h.2 with h | ⟨g, cap, cur, e, h1, h2⟩
  · exact .inl h
  · exact .inr ⟨g, cap, cur, e, Nat.le_trans hb h1, h2⟩
theorem own_val7 {w : World} {b n : Nat} {v : Value} {xs : List Value} (h : w.ownsRow b 65 7 v n xs) : ∃ A c, v = .slice A n c := by
  rcases h.2 with ⟨rfl, rfl⟩ | ⟨g, cap, cur, e, _⟩
  · exact ⟨_, _, rfl⟩
  · exact ⟨_, _, e⟩
theorem own_lo7 {w : World} {b n : Nat} {v : Value} {xs : List Value} (h : w.ownsRow b 65 7 v n xs) : ∀ k, v.ownBlock = some k → b ≤ k ∧ k < w.heap.size := by
  rcases h.2 with ⟨rfl, rfl⟩ | ⟨g, cap, cur, rfl, h1, h2, _⟩
  · intro k e; cases e
  · intro k e
    obtain rfl : g = k := by simpa [Value.ownBlock] using e
    exact ⟨h1, (Array.getElem?_eq_some_iff.1 h2).1⟩
theorem info_kept : (Try.prog.info? 65).map (fun i => (i.zero, i.size, i.bytes)) = some (some (.agg #[.string ⟨#[]⟩, .int .i64 0, .string ⟨#[]⟩, .slice none 0 0, .bool false, .slice none 0 0, .slice none 0 0]), 7, 120) := by kernel_rfl
theorem RSt.pts {w : World} {Q B : Nat} {v : Value} {Z : Nat → Prop} {L : Kl} (h : RSt w Q v B Z L) : ∃ rs, Pts w (fun b => B ≤ b ∧ v.ownBlock ≠ some b ∧ Z b) rs L ∧ w.ownsRow B 65 7 v L.length (prow rs) := by
  obtain ⟨_, _, _, _, _, _, rs, h7, h8, h9⟩ := h
  exact ⟨rs, ⟨h7, h9⟩, h8⟩
theorem RSt.of {w : World} {Q B : Nat} {v : Value} {Z : Nat → Prop} {L : Kl} {rs : List (ByteArray × Kc)} (h1 : Q < B) (h2 : Blk w Q 41 #[v]) (h3 : Rising L) (h4 : total L ≤ 3000) (h5 : L.length ≤ 40) (h6 : ∀ p ∈ L, p.2.bulk ≤ 1048576 ∧ p.1.size ≤ 1048576)
    (h7 : Pts w (fun b => B ≤ b ∧ v.ownBlock ≠ some b ∧ Z b) rs L) (h8 : w.ownsRow B 65 7 v L.length (prow rs)) : RSt w Q v B Z L := ⟨h1, h2, h3, h4, h5, h6, rs, h7.1, h8, h7.2⟩
end Go.Proofs.Ytmncamnlmpajbaa

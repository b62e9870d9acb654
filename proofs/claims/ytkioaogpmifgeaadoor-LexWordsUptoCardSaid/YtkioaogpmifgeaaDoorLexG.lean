/-
  riddlelaw03.known: true.
-/
import Derived.Test.YtkioaogpmifgeaaDoorLexF
namespace Go.Proofs.YtkioaogpmifgeaaDoor
open Go.RowKit

/-- Each word's cells, in plain terms. -/
theorem tok_cells {w : World} {base : Nat} {v : Value} {rs : List Tk} {l : List UInt8} {ps : List (Nat × Nat × Nat)} (hown : OutT w base v rs) (htk : Toks w base l rs ps) (hn : 0 < ps.length) : ∃ g cap, v = .slice (some ⟨g, 0, none⟩) ps.length cap ∧ ∀ i, i < ps.length → ∃ A n c,
    w.cell? ⟨g, i * 5, none⟩ = some (.int .i64 ((ps.getD i (0, 0, 0)).1 : Nat)) ∧ w.cell? ⟨g, i * 5 + 1, none⟩ = some (.string ⟨((l.drop (ps.getD i (0, 0, 0)).2.1).take (ps.getD i (0, 0, 0)).2.2).toArray⟩) ∧ w.cell? ⟨g, i * 5 + 2, none⟩ = some (.bool false) ∧ w.cell? ⟨g, i * 5 + 3, none⟩ = some (.slice A n c) ∧
    w.cell? ⟨g, i * 5 + 4, none⟩ = some (.int .i64 ((ps.getD i (0, 0, 0)).2.1 : Nat)) ∧ MagOf base w (.slice A n c) (ps.getD i (0, 0, 0)).1 ((l.drop (ps.getD i (0, 0, 0)).2.1).take (ps.getD i (0, 0, 0)).2.2) := by
  obtain ⟨g, cap, hv, hc⟩ := hown.cells (by rw [htk.1]; exact hn)
  rw [htk.1] at hv
  refine ⟨g, cap, hv, fun i hi => ?_⟩
  obtain ⟨h1, h2, h3, h4⟩ := htk.2 i hi
  have hcc := hc i (by rw [htk.1]; exact hi)
  obtain ⟨⟨k, T, m, p⟩, hr⟩ : ∃ r, rs.getD i tk0 = r := ⟨_, rfl⟩
  rw [hr] at h1 h2 h3 h4 hcc
  dsimp only at h1 h2 h3 h4
  rw [h1, h3] at h4
  have hT := bytes_ext h3
  have hm : ∃ A n c, m = .slice A n c := by
    unfold MagOf at h4
    split at h4
    · obtain ⟨g', n, c, e, _⟩ := h4; exact ⟨_, _, _, e⟩
    · exact ⟨_, _, _, h4⟩
  obtain ⟨A, n, c, rfl⟩ := hm
  refine ⟨A, n, c, ?_, ?_, ?_, ?_, ?_, h4⟩
  · have := hcc 0 (by omega); rw [Nat.add_zero] at this; rw [this, ← h1]; rfl
  · rw [hcc 1 (by omega), ← hT]; rfl
  · rw [hcc 2 (by omega)]; rfl
  · rw [hcc 3 (by omega)]; rfl
  · rw [hcc 4 (by omega), ← h2]; rfl
def knownIn : ByteArray := ⟨#[110, 111, 116, 32, 50, 32, 100, 105, 118, 105, 100, 101, 115, 32, 120, 95, 49]⟩
theorem known_ans : X.ans knownIn.data.toList = ([(3, 0, 3), (1, 4, 1), (3, 6, 7), (2, 14, 3)], 0, 0) := by decide
theorem known_name : X.name (⟨#[120, 95, 49]⟩ : ByteArray).data.toList = true := by decide
theorem words_x (w : World) (S : ByteArray) :
    Calls Tryd.prog 13 #[.string S] w fun e w' => e = .returned (.func (.func 25) #[] #[.pointer (some ⟨w.heap.size, 0, none⟩)]) ∧ w' = w.alloc (.cells #[.string S] 9) := by
  go_enter Tryd.func13, Tryd.ntmps13
  go_wp2_with fail
  go_ret
  exact ⟨rfl, rfl⟩
theorem func_neq (f : Fn) (a b : Array Value) (w : World) : (binOp .neq 36 (.func f a b) .nilFunc).run Tryd.prog w = .ok (.bool true) w := by
  rfl
set_option maxRecDepth 100000 in
set_option maxHeartbeats 4000000 in
theorem known_l (w : World) : Calls Tryd.prog 12 #[] w fun e w' => e = .returned (.bool true) ∧ Below w.heap.size w w' := by
  go_enter Tryd.func12, Tryd.ntmps12
  go_upto_region 2 with (go_at_call 9; refine (tokens_x _ knownIn).mono ?_; rintro e w1 ⟨v, rs, rfl, hown, htk, hb1⟩; rw [known_ans]; rw [known_ans] at htk; dsimp only at htk ⊢)
  obtain ⟨g, cap, rfl, hc⟩ := tok_cells hown htk (by decide)
  obtain ⟨A0, n0, c0, k00, _⟩ := hc 0 (by decide)
  obtain ⟨A1, n1, c1, k10, _, _, k13, _, hm⟩ := hc 1 (by decide)
  obtain ⟨A2, n2, c2, _, k21, _⟩ := hc 2 (by decide)
  obtain ⟨A3, n3, c3, k30, _, _, _, k34, _⟩ := hc 3 (by decide)
  obtain ⟨g2, n2', c2', e2, ho2⟩ := (show ∃ g n c, Value.slice A1 n1 c1 = .slice (some ⟨g, 0, none⟩) n c ∧ Own w1 w.heap.size g n c (N.ofN (N.val [50])) from hm)
  injection e2 with e2 e3 e4
  subst e2; subst e3; subst e4
  have hn1 : n1 = 1 := by
    have h1 := ho2.len
    have h2 : (N.ofN (N.val [50])).length ≤ 1 := N.ofN_length_le (by decide)
    have h3 : 0 < (N.ofN (N.val [50])).length := N.ofN_pos (by decide)
    omega
  subst hn1
  have q0 : w1.cell? ⟨g, 0, none⟩ = some (.int .i64 3) := k00
  have q1 : w1.cell? ⟨g, 5, none⟩ = some (.int .i64 1) := k10
  have q2 : w1.cell? ⟨g, 8, none⟩ = some (.slice (some ⟨g2, 0, none⟩) 1 c1) := k13
  have q3 : w1.cell? ⟨g, 11, none⟩ = some (.string ⟨#[100, 105, 118, 105, 100, 101, 115]⟩) := k21
  have q4 : w1.cell? ⟨g, 15, none⟩ = some (.int .i64 2) := k30
  have q5 : w1.cell? ⟨g, 19, none⟩ = some (.int .i64 14) := k34
  clear hc k00 k10 k13 k21 k30 k34 hm ho2 hown htk
  have hn : ([(3, 0, 3), (1, 4, 1), (3, 6, 7), (2, 14, 3)] : List (Nat × Nat × Nat)).length = 4 := rfl
  rw [hn]
  have hz : ((0 : Nat) : Int) = 0 := rfl
  rw [hz]
  have p2 := Blk.new w1 25 #[.int .i64 0, .int .i64 0]
  obtain ⟨W2, hW2, hb2⟩ : ∃ W2 : World, W2 = w1.alloc (.cells #[.int .i64 0, .int .i64 0] 25) ∧ Below w1.heap.size w1 W2 := ⟨_, rfl, below_alloc1 _ _⟩
  have keep : ∀ p u, w1.cell? p = some u → W2.cell? p = some u := fun p u h => (hb2.cell (World.block_lt_of_cell? w1 _ h)).trans h
  rw [← hW2] at p2 ⊢
  obtain ⟨b2, hbe⟩ : ∃ b, b = w1.heap.size := ⟨_, rfl⟩
  rw [← hbe] at p2 ⊢
  replace q0 := keep _ _ q0
  replace q1 := keep _ _ q1
  replace q2 := keep _ _ q2
  replace q3 := keep _ _ q3
  replace q4 := keep _ _ q4
  replace q5 := keep _ _ q5
  obtain ⟨_, c0', c1'⟩ := p2.facts2
  have hbw := below_on hb1 hb2
  have hneq := func_neq
  clear keep hb1 hb2 hW2 hbe
  go_wp2_with (first
    | (go_at_call 18; refine (isname_x _ _ (by decide)).mono ?_; rintro e w2 ⟨rfl, rfl⟩; rw [known_name])
    | (go_at_call 13; refine (words_x _ _).mono ?_; rintro e w2 ⟨rfl, rfl⟩))
  go_ret
  exact ⟨rfl, below_on hbw (below_alloc1 _ _)⟩
end Go.Proofs.YtkioaogpmifgeaaDoor

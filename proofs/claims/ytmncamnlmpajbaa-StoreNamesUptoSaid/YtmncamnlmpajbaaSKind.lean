/-
  What is asked of a tree's kind, names and number, by both: contracts.
-/
import Derived.Test.YtmncamnlmpajbaaSNone
namespace Go.Proofs.Ytmncamnlmpajbaa
open Go.RowKit

def okK (k : Int) : Bool := decide (1 ≤ k) && decide (k ≤ 22)
def fmK (k : Int) : Bool := decide (7 ≤ k) && decide (k ≤ 22)
def nameK (k : Int) : Bool := k == 2
def namesK (k : Int) : Bool := k == 21 || k == 22
def numK (k : Int) : Bool := k == 1 || k == 6 || k == 15
def leastK (k : Int) : Int := if k == 1 || k == 2 || k == 7 || k == 8 then 0 else if k == 3 || k == 6 || k == 15 || k == 16 || k == 21 || k == 22 then 1 else 2
def mostK (k : Int) : Int := if k == 1 || k == 2 || k == 7 || k == 8 then 0 else if k == 3 || k == 6 || k == 15 || k == 16 || k == 21 || k == 22 then 1 else if k == 17 || k == 18 then -1 else 2
def innerK (k : Int) : Bool := decide (16 ≤ k)
def termK (k : Int) : Bool := decide (1 ≤ k) && decide (k ≤ 6)
def termsK (k : Int) : Bool := k == 3 || k == 6 || k == 15 || k == 4 || k == 5 || (decide (9 ≤ k) && decide (k ≤ 14))
theorem kinds {k : Int} (h1 : 1 ≤ k) (h2 : k ≤ 22) : k = 1 ∨ k = 2 ∨ k = 3 ∨ k = 4 ∨ k = 5 ∨ k = 6 ∨ k = 7 ∨ k = 8 ∨ k = 9 ∨ k = 10 ∨ k = 11 ∨ k = 12 ∨ k = 13 ∨ k = 14 ∨ k = 15 ∨ k = 16 ∨ k = 17 ∨ k = 18 ∨ k = 19 ∨ k = 20 ∨ k = 21 ∨ k = 22 := by omega
theorem term_r (w : World) (k : Int) : Calls Try.prog 60 #[.int .i64 k] w fun e w' => e = .returned (.bool (termK k)) ∧ w' = w := by
  by_cases h1 : 1 ≤ k
  · have d1 : decide (k ≥ 1) = true := decide_eq_true h1
    have d1' : decide (1 ≤ k) = true := decide_eq_true h1
    by_cases h2 : k ≤ 6
    · have d2 : decide (k ≤ 6) = true := decide_eq_true h2
      have e : termK k = true := by simp [termK, d1', d2]
      rw [e]
      clear e h1 h2
      go_enter Try.func60, Try.ntmps60
      go_wp2_with fail
      go_ret
      exact ⟨rfl, rfl⟩
    · have d2 : decide (k ≤ 6) = false := decide_eq_false h2
      have e : termK k = false := by simp [termK, d1', d2]
      rw [e]
      clear e h1 h2
      go_enter Try.func60, Try.ntmps60
      go_wp2_with fail
      go_ret
      exact ⟨rfl, rfl⟩
  · have d1 : decide (k ≥ 1) = false := decide_eq_false h1
    have d1' : decide (1 ≤ k) = false := decide_eq_false h1
    have e : termK k = false := by simp [termK, d1']
    rw [e]
    clear e h1
    go_enter Try.func60, Try.ntmps60
    go_wp2_with fail
    go_ret
    exact ⟨rfl, rfl⟩
set_option maxHeartbeats 3200000 in
theorem kids_r (w : World) (k : Int) (h1 : 1 ≤ k) (h2 : k ≤ 22) : Calls Try.prog 81 #[.int .i64 k] w fun e w' => e = .returned (.tuple #[.int .i64 (leastK k), .int .i64 (mostK k), .bool (termsK k)]) ∧ w' = w := by
  rcases kinds h1 h2 with rfl | rfl | rfl | rfl | rfl | rfl | rfl | rfl | rfl | rfl | rfl | rfl | rfl | rfl | rfl | rfl | rfl | rfl | rfl | rfl | rfl | rfl
  all_goals
    clear h1 h2
    go_enter Try.func81, Try.ntmps81
    go_wp2_with fail
    go_ret3
    exact ⟨rfl, rfl⟩
theorem sizeShape : (Try.prog.info? 93).map (·.size) = some 7 := by kernel_rfl
theorem results_shape {fn : Func} {p u : Tmp} (h : fn.results = #[.cell p 93, .tmp u]) (tmps : Array Value) (w : World) (g : Nat) (t : TypeId) (a0 a1 a2 a3 a4 a5 a6 : Value)
    (hp : tmps.getD p undef = .pointer (some ⟨g, 0, none⟩)) (hg : Blk w g t #[a0, a1, a2, a3, a4, a5, a6]) : (results fn tmps).run Try.prog w = .ok (.tuple #[.agg #[a0, a1, a2, a3, a4, a5, a6], tmps.getD u undef]) w := by
  have hp' : tmps[p]?.getD undef = .pointer (some ⟨g, 0, none⟩) := by simpa using hp
  simp [results, h, hp', asAddr, run_loadVar_row w g _ 93 _ _ _ hg Try.underlying93 rfl sizeShape]
set_option maxHeartbeats 3200000 in
theorem shaped_x (w : World) (k : Int) : Calls Try.prog 69 #[.int .i64 k] w fun e w' => (okK k = true → e = .returned (.tuple #[.agg #[.bool (nameK k), .bool (namesK k), .bool (numK k), .int .i64 (leastK k), .int .i64 (mostK k), .bool (innerK k), .bool (fmK k)], .bool true])) ∧ (okK k = false → ∃ s0 s1 s2 s3 s4 s5 s6, e = .returned (.tuple #[.agg #[.bool s0, .bool s1, .bool s2, .int .i64 s3, .int .i64 s4, .bool s5, .bool s6], .bool false])) ∧ Below w.heap.size w w' := by
  by_cases h1 : 1 ≤ k ∧ k ≤ 22
  · rcases kinds h1.1 h1.2 with rfl | rfl | rfl | rfl | rfl | rfl | rfl | rfl | rfl | rfl | rfl | rfl | rfl | rfl | rfl | rfl | rfl | rfl | rfl | rfl | rfl | rfl
    all_goals
      clear h1
      go_enter Try.func69, Try.ntmps69
      go_wp2_with fail
      refine bodyPost_ret (results_shape rfl _ _ w.heap.size _ _ _ _ _ _ _ _ rfl ((Blk.new _ _ _).below (below_alloc1 _ _))) rfl ?_
      exact ⟨fun _ => rfl, fun h => absurd h (by decide), below_on (below_alloc1 _ _) (below_alloc1 _ _)⟩
  · have hok : okK k = false := by
      unfold okK
      by_cases h2 : 1 ≤ k
      · rw [decide_eq_false (show ¬ k ≤ 22 from fun h => h1 ⟨h2, h⟩)]; simp
      · rw [decide_eq_false h2]; simp
    have HOK := Lib.hid hok
    clear hok
    have n1 : (k == 1) = false := by simp; omega
    have n2 : (k == 2) = false := by simp; omega
    have n3 : (k == 3) = false := by simp; omega
    have n4 : (k == 4) = false := by simp; omega
    have n5 : (k == 5) = false := by simp; omega
    have n6 : (k == 6) = false := by simp; omega
    have n7 : (k == 7) = false := by simp; omega
    have n8 : (k == 8) = false := by simp; omega
    have n9 : (k == 9) = false := by simp; omega
    have n10 : (k == 10) = false := by simp; omega
    have n11 : (k == 11) = false := by simp; omega
    have n12 : (k == 12) = false := by simp; omega
    have n13 : (k == 13) = false := by simp; omega
    have n14 : (k == 14) = false := by simp; omega
    have n15 : (k == 15) = false := by simp; omega
    have n16 : (k == 16) = false := by simp; omega
    have n17 : (k == 17) = false := by simp; omega
    have n18 : (k == 18) = false := by simp; omega
    have n19 : (k == 19) = false := by simp; omega
    have n20 : (k == 20) = false := by simp; omega
    have n21 : (k == 21) = false := by simp; omega
    have n22 : (k == 22) = false := by simp; omega
    clear h1
    go_enter Try.func69, Try.ntmps69
    go_wp2_with fail
    refine bodyPost_ret (results_shape rfl _ _ w.heap.size _ _ _ _ _ _ _ _ rfl ((Blk.new _ _ _).below (below_alloc1 _ _))) rfl ?_
    exact ⟨fun h => (by rw [HOK.out] at h; cases h), fun _ => ⟨_, _, _, _, _, _, _, rfl⟩, below_on (below_alloc1 _ _) (below_alloc1 _ _)⟩
end Go.Proofs.Ytmncamnlmpajbaa

/-
  riddlelaw01.same: contract.
-/
import Derived.Test.YtchbamlfdknkgaaDoorBits
namespace Go.Proofs.YtchbamlfdknkgaaDoor
open Go.RowKit

set_option maxHeartbeats 400000 in
theorem same_any (w : World) (A : Option Addr) (n c : Nat) (a : List Nat) (B : Option Addr) (d : Nat) (ha : Sl w A n c a) (hb : Sl w B n d a) (hn : n ≤ 9223372036854775807) :
    Calls Tryd.prog 51 #[.slice A n c, .slice B n d] w fun e w' => e = .returned (.bool true) ∧ Below w.heap.size w w' := by
  have t0 : ((n : Int) != n) = false := by simp
  go_enter Tryd.func51, Tryd.ntmps51
  go_wp2_with fail
  go_loopg [5] n (fun gk v5 wr => ∃ k : Nat, gk + k = n ∧ v5 = .int .i64 (k : Nat) ∧ Below w.heap.size w wr)
  case atStart => exact ⟨0, rfl, rfl, Below.refl _ _⟩
  case round =>
    obtain ⟨k, hk, rfl, hbw⟩ := hrel
    by_cases hkn : k < n
    · obtain ⟨b1, o1, rfl, hc1⟩ := (ha.below hbw).cells (by omega)
      obtain ⟨b2, o2, rfl, hc2⟩ := (hb.below hbw).cells (by omega)
      have h1 := hc1 k hkn
      have h2 := hc2 k hkn
      clear hc1 hc2
      have h0 : (0 : Int) ≤ k := by omega
      have hkn' : (k : Int) < n := by omega
      have t1 : ((N.dg a k : Int) != (N.dg a k : Int)) = false := by simp
      go_wp2_with fail
      go_quiet (fail)
      go_wp2_with fail
      go_roundg (gk - 1)
      case measure => omega
      case rel => exact ⟨k + 1, by omega, by go_num, below_drewN hbw _⟩
    · obtain rfl : k = n := by omega
      go_wp2_with fail
      go_ret
      exact ⟨rfl, hbw⟩
theorem same_v {w : World} {a b : Value} {K L x y : Nat} (ha : Bar w a K x) (hb : Bar w b L y) (hK : K ≤ 9223372036854775807) (e : x = y) :
    Calls Tryd.prog 51 #[a, b] w fun e w' => e = .returned (.bool true) ∧ Below w.heap.size w w' := by
  subst e
  obtain ⟨A, n, c, rfl, hs, hn⟩ := ha
  obtain ⟨B, m, d, rfl, ht, hm⟩ := hb
  obtain rfl : n = m := by have := hs.len; have := ht.len; omega
  exact same_any w A n c _ B d hs ht (by omega)
end Go.Proofs.YtchbamlfdknkgaaDoor

/-
  riddleref01.DivMod once more: both answers in new memory.
-/
import Derived.Test.YtchbamlfdknkgaaDoorVars
namespace Go.Proofs.YtchbamlfdknkgaaDoor
open Go.RowKit

/-- riddleref01.DivMod: both answers in new memory. -/
theorem rdm_f {w : World} {a b : Value} {K L x y : Nat} (ha : Val w a K x) (hb : Val w b L y) (hK : K ≤ 4398046511104) (hL : L ≤ 4398046511104) (h0 : 0 < y) :
    Calls Tryd.prog 37 #[a, b] w fun e w' => ∃ q r, e = .returned (.tuple #[q, r]) ∧ Fre w w' q K (x / y) ∧ Fre w w' r L (x % y) ∧ Below w.heap.size w w' := by
  have h1 := ha.lt
  have h2 := hb.lt
  obtain ⟨A, n, c, l, rfl, hs, rfl, hn⟩ := ha
  obtain ⟨B, m, d, k, rfl, ht, rfl, hm⟩ := hb
  refine (rdm_any w A n c l B m d k hs ht (by omega) (by omega) h0).mono ?_
  rintro e w' ⟨g, n', c', g2, n2, c2, rfl, ho, ho2, hb⟩
  exact ⟨_, _, rfl, fre_of ho (Nat.lt_of_le_of_lt (Nat.div_le_self _ _) h1), fre_of ho2 (Nat.lt_trans (Nat.mod_lt _ h0) h2), hb⟩
/-- nat.DivMod, whether the divisor is 0 or not. -/
theorem dm_u {w : World} {a b : Value} {K L x y : Nat} (ha : Val w a K x) (hb : Val w b L y) (hK : K ≤ 17592186044416) (hL : L ≤ 17592186044416) :
    Calls Tryd.prog 34 #[a, b] w fun e w' => ∃ q r z, e = .returned (.tuple #[q, r, .int .i64 z]) ∧ ((y = 0 ∧ q = .slice none 0 0 ∧ r = .slice none 0 0 ∧ z = 11) ∨ (0 < y ∧ z = 0 ∧ Fre w w' q K (x / y) ∧ Fre w w' r L (x % y) ∧ (∀ g n c g' n' c', q = .slice (some ⟨g, 0, none⟩) n c → r = .slice (some ⟨g', 0, none⟩) n' c' → g < g'))) ∧ Below w.heap.size w w' := by
  rcases Nat.eq_zero_or_pos y with h | h
  · refine (dm_z ha hb (by omega) (by omega) h).mono ?_
    rintro e w' ⟨rfl, rfl⟩
    exact ⟨_, _, _, rfl, .inl ⟨h, rfl, rfl, rfl⟩, Below.refl _ _⟩
  · refine (dm_v ha hb hK hL h).mono ?_
    rintro e w' ⟨q, r, rfl, hq, hr, hg, hb⟩
    exact ⟨_, _, _, rfl, .inr ⟨h, rfl, hq, hr, hg⟩, hb⟩
end Go.Proofs.YtchbamlfdknkgaaDoor

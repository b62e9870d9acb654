/-
  syntax.Size, riddleref04.size, Size: contracts.
-/
import Derived.Test.YtmncamnlmpajbaaSRDepth
namespace Go.Proofs.Ytmncamnlmpajbaa
open Go.RowKit

mutual
/-- How many nodes a tree has. -/
def T.size : T → Nat
  | .node _ _ _ _ _ ks => T.sizes ks + 1
def T.sizes : List T → Nat
  | [] => 0
  | t :: r => t.size + T.sizes r
end
theorem T.size_eq (t : T) : t.size = T.sizes t.ks + 1 := by cases t; simp [T.size, T.ks]
theorem T.sizes_snoc : ∀ (l : List T) (t : T), T.sizes (l ++ [t]) = T.sizes l + t.size
  | [], t => by simp [T.sizes]
  | u :: r, t => by simp [T.sizes, T.sizes_snoc r t]; omega
theorem T.sizes_take : ∀ (l : List T) (i : Nat), T.sizes (l.take i) ≤ T.sizes l
  | [], i => by simp
  | t :: r, 0 => by simp [T.sizes]
  | t :: r, i + 1 => by have := T.sizes_take r i; simp [T.sizes]; omega
theorem T.size_pos (t : T) : 0 < t.size := by rw [T.size_eq]; omega
set_option maxRecDepth 100000 in
set_option maxHeartbeats 1600000 in
theorem size_t : ∀ (N : Nat) (t : T) (w : World) (R : Nat → Prop) (v : Value), t.bulk ≤ N → N ≤ 1048576 → T.In w R t v →
    Calls Try.prog 36 #[v] w fun e w' => e = .returned (.int .i64 ((min t.size 3001 : Nat))) ∧ Below w.heap.size w w'
  | 0, t, _, _, _, hN, _, _ => by have := T.bulk_pos t; omega
  | N + 1, t, w, R, v, hN, hN2, h => by
    have ih := size_t N
    obtain ⟨A1, c1, A2, c2, A3, c3, rfl, hnames, hmag, hc3, hkids⟩ := h.open
    obtain ⟨n, hn⟩ : ∃ n, t.ks.length = n := ⟨_, rfl⟩
    obtain ⟨hl1, hl2, hl3, hl4, hlen⟩ := T.len_le hN
    rw [hn] at hkids hc3 hlen ⊢
    have HN := Lib.hid hn
    have HK := Lib.hid hkids
    have HB := Lib.hid hN
    have HNM := Lib.hid hnames
    have HMG := Lib.hid hmag
    clear hn hkids hN h hnames hmag
    go_enter Try.func36, Try.ntmps36
    go_wp2_with fail
    go_loopg [3, 9] (n + 1) (fun gk v3 v9 wr => ∃ i s : Nat, gk + i = n + 1 ∧ i ≤ n ∧ v9 = .int .i64 (i : Nat) ∧ v3 = .int .i64 (s : Nat) ∧ s ≤ 6001 ∧ Hid (min s 3001 = min (T.sizes (t.ks.take i) + 1) 3001) ∧ Below w.heap.size w wr)
    case atStart => exact ⟨0, 1, by omega, Nat.zero_le _, rfl, rfl, by omega, Lib.hid (by simp [T.sizes]), below_alloc1 _ _⟩
    case round =>
      obtain ⟨i, s, hi, hin, rfl, rfl, hs, HS, hbw⟩ := hrel
      by_cases hlt : i < n
      · by_cases h3 : 3000 < s
        · obtain ⟨b, o, rfl, hk⟩ := HK.out (by omega)
          have hkd := hk i hlt
          obtain ⟨B1, d1, B2, d2, B3, d3, h6, _⟩ := hkd.below hbw
          clear hk hkd
          obtain ⟨u, hu⟩ : ∃ u, t.ks.getD i t0 = u := ⟨_, rfl⟩
          rw [hu] at h6
          clear hu
          obtain ⟨e0, e1, e2, e3, e4, e5⟩ := h6
          have hi0 : (0 : Int) ≤ i := by omega
          have hi1 : (i : Int) < n := by omega
          have q1 : decide ((s : Int) > 3000) = true := decide_eq_true (by omega)
          have q2 : decide (3000 < s) = true := decide_eq_true h3
          have hal := below_alloc1 wr (.cells #[.int .i64 u.k, .string u.nm, .slice B1 u.ns.length d1, .bool u.ng, .slice B2 u.mg.length d2, .slice B3 u.ks.length d3] 35)
          have hres : min t.size 3001 = min s 3001 := by
            have h1 := HS.out
            have h2 := T.sizes_take t.ks i
            rw [T.size_eq]
            omega
          have HR := Lib.hid hres
          have hbw2 := below_on hbw hal
          clear hres hal
          go_wp2_with fail
          go_ret
          exact ⟨by rw [HR.out]; go_num, hbw2⟩
        · obtain ⟨b, o, rfl, hk⟩ := HK.out (by omega)
          have hkd := hk i hlt
          obtain ⟨u, hu⟩ : ∃ u, t.ks.getD i t0 = u := ⟨_, rfl⟩
          rw [hu] at hkd
          have hub : u.bulk ≤ N := by rw [← hu]; exact T.kid_bulk HB.out (by rw [HN.out]; exact hlt)
          have HU := Lib.hid hu
          clear hk hu
          obtain ⟨B1, d1, B2, d2, B3, d3, h6, hkin⟩ := hkd.below hbw
          have HI := Lib.hid hkin
          clear hkin
          obtain ⟨e0, e1, e2, e3, e4, e5⟩ := h6
          have hi0 : (0 : Int) ≤ i := by omega
          have hi1 : (i : Int) < n := by omega
          have hal := below_alloc1 wr (.cells #[.int .i64 u.k, .string u.nm, .slice B1 u.ns.length d1, .bool u.ng, .slice B2 u.mg.length d2, .slice B3 u.ks.length d3] 35)
          have HI2 := Lib.hid (HI.out.below hal)
          have hbw2 := below_on hbw hal
          have q1 : decide ((s : Int) > 3000) = false := decide_eq_false (by omega)
          have q2 : decide (3000 < s) = false := decide_eq_false h3
          obtain ⟨z, hz⟩ : ∃ z, min u.size 3001 = z := ⟨_, rfl⟩
          have hz3 : z ≤ 3001 := by omega
          have hnext : min (s + z) 3001 = min (T.sizes (t.ks.take (i + 1)) + 1) 3001 := by
            rw [take_snoc _ t0 _ (by rw [HN.out]; exact hlt), T.sizes_snoc, HU.out]
            have := HS.out
            omega
          have HX := Lib.hid hnext
          have HZ := Lib.hid hz
          clear hnext hal hz
          go_wp2_with (go_at_call 36; refine (ih u _ R _ hub (by omega) HI2.out).mono ?_; rw [HZ.out]; rintro e w2 ⟨rfl, hb2⟩; replace hbw2 := below_on hbw2 hb2)
          go_roundg (n - i)
          case measure => omega
          case rel => exact ⟨i + 1, s + z, by omega, by omega, by go_num, by go_num, by omega, HX, hbw2⟩
      · obtain rfl : i = n := by omega
        have hres : min t.size 3001 = min s 3001 := by
          have htk : t.ks.take i = t.ks := by rw [← HN.out, List.take_length]
          have := HS.out
          rw [htk] at this
          rw [T.size_eq, this]
        have HR := Lib.hid hres
        clear hres
        go_wp2_with fail
        go_ret
        exact ⟨by rw [HR.out]; go_num, hbw⟩
end Go.Proofs.Ytmncamnlmpajbaa

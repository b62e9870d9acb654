/-
  riddleref04.size, Size: contracts.
-/
import Derived.Test.YtmncamnlmpajbaaSSize
namespace Go.Proofs.Ytmncamnlmpajbaa
open Go.RowKit

set_option maxRecDepth 100000 in
set_option maxHeartbeats 1600000 in
theorem rsize_t : ∀ (N : Nat) (t : T) (w : World) (R : Nat → Prop) (v : Value) (m : Nat), t.bulk ≤ N → N ≤ 1048576 → T.In w R t v → 1 ≤ m → m ≤ 1048576 →
    Calls Try.prog 39 #[v, .int .i64 (m : Nat)] w fun e w' => e = .returned (.int .i64 ((min t.size m : Nat))) ∧ Below w.heap.size w w'
  | 0, t, _, _, _, _, hN, _, _, _, _ => by have := T.bulk_pos t; omega
  | N + 1, t, w, R, v, m, hN, hN2, h, hm1, hm2 => by
    have ih := rsize_t N
    obtain ⟨A1, c1, A2, c2, A3, c3, rfl, hnames, hmag, hc3, hkids⟩ := h.open
    obtain ⟨n, hn⟩ : ∃ n, t.ks.length = n := ⟨_, rfl⟩
    obtain ⟨hl1, hl2, hl3, hl4, hlen⟩ := T.len_le hN
    rw [hn] at hkids hc3 hlen ⊢
    have HN := Lib.hid hn
    have HK := Lib.hid hkids
    have HB := Lib.hid hN
    have HNM := Lib.hid hnames
    have HMG := Lib.hid hmag
    clear hn hkids hN h hnames hmag
    go_enter Try.func39, Try.ntmps39
    go_upto_region 1 with (fail)
    obtain ⟨W1, hW1, pt, hb1⟩ := made_blk w #[.int .i64 t.k, .string t.nm, .slice A1 t.ns.length c1, .bool t.ng, .slice A2 t.mg.length c2, .slice A3 n c3] 35
    obtain ⟨Bt, hBt⟩ : ∃ b, b = w.heap.size := ⟨_, rfl⟩
    rw [← hW1, ← hBt]
    rw [← hBt] at pt
    clear hW1 hBt
    go_wp2_with fail
    go_loopg [5, 6] (n + 1) (fun gk v5 v6 wr => ∃ i s : Nat, gk + i = n + 1 ∧ i ≤ n ∧ v6 = .int .i64 (i : Nat) ∧ v5 = .int .i64 (s : Nat) ∧ s ≤ m ∧ Hid (s = min (T.sizes (t.ks.take i) + 1) m) ∧ Below W1.heap.size W1 wr)
    case atStart => exact ⟨0, 1, by omega, Nat.zero_le _, rfl, rfl, hm1, Lib.hid (by simp [T.sizes]; omega), Below.refl _ _⟩
    case round =>
      obtain ⟨i, s, hi, hin, rfl, rfl, hs, HS, hS⟩ := hrel
      obtain ⟨x0, x1, x2, x3, x4, x5⟩ := (pt.below hS).six
      by_cases hlt : i < n
      · by_cases h3 : s < m
        · obtain ⟨b, o, rfl, hk⟩ := HK.out (by omega)
          have hkd := hk i hlt
          obtain ⟨u, hu⟩ : ∃ u, t.ks.getD i t0 = u := ⟨_, rfl⟩
          rw [hu] at hkd
          have hub : u.bulk ≤ N := by rw [← hu]; exact T.kid_bulk HB.out (by rw [HN.out]; exact hlt)
          have HU := Lib.hid hu
          clear hk hu
          obtain ⟨B1, d1, B2, d2, B3, d3, h6, hkin⟩ := hkd.below (below_on hb1 hS)
          have HI := Lib.hid hkin
          clear hkin
          obtain ⟨e0, e1, e2, e3, e4, e5⟩ := h6
          have hi0 : (0 : Int) ≤ i := by omega
          have hi1 : (i : Int) < n := by omega
          have q3 : decide (s < m) = true := decide_eq_true h3
          have hi2 : decide (i < n) = true := decide_eq_true hlt
          obtain ⟨z, hz⟩ : ∃ z, min u.size (m - s) = z := ⟨_, rfl⟩
          have hzm : z ≤ m - s := by omega
          have hnext : s + z = min (T.sizes (t.ks.take (i + 1)) + 1) m := by
            rw [take_snoc _ t0 _ (by rw [HN.out]; exact hlt), T.sizes_snoc, HU.out]
            have := HS.out
            omega
          have HX := Lib.hid hnext
          have HZ := Lib.hid hz
          have hms : (m : Int) - s = ((m - s : Nat) : Int) := by omega
          have HMS := Lib.hid hms
          clear hnext hz hms
          go_wp2_with (go_at_call 39; rw [HMS.out]; refine (ih u _ R _ (m - s) hub (by omega) HI.out (by omega) (by omega)).mono ?_; rw [HZ.out]; rintro e w2 ⟨rfl, hb2⟩; have hS2 := below_on hS hb2)
          go_roundg (n - i)
          case measure => omega
          case rel => exact ⟨i + 1, s + z, by omega, by omega, by go_num, by go_num, by omega, HX, hS2⟩
        · have q3 : decide (s < m) = false := decide_eq_false h3
          have hi2 : decide (i < n) = true := decide_eq_true hlt
          have hres : min t.size m = s := by
            have h1 := HS.out
            have h2 := T.sizes_take t.ks i
            rw [T.size_eq]
            omega
          have HR := Lib.hid hres
          clear hres
          go_wp2_with fail
          go_ret
          exact ⟨by rw [HR.out]; rfl, below_on hb1 hS⟩
      · obtain rfl : i = n := by omega
        have hres : min t.size m = s := by
          have htk : t.ks.take i = t.ks := by rw [← HN.out, List.take_length]
          have := HS.out
          rw [htk] at this
          rw [T.size_eq, this]
        have HR := Lib.hid hres
        clear hres
        go_wp2_with fail
        go_ret
        exact ⟨by rw [HR.out]; rfl, below_on hb1 hS⟩
set_option maxRecDepth 100000 in
theorem rSize_t (t : T) (w : World) (R : Nat → Prop) (v : Value) (hN : t.bulk ≤ 1048576) (h : T.In w R t v) :
    Calls Try.prog 24 #[v] w fun e w' => e = .returned (.int .i64 ((min t.size 3001 : Nat))) ∧ Below w.heap.size w w' := by
  obtain ⟨A1, c1, A2, c2, A3, c3, rfl, _⟩ := h.form
  go_enter Try.func24, Try.ntmps24
  go_wp2_with (go_at_call 39; refine (rsize_t _ t _ R _ 3001 hN (Nat.le_refl _) (h.below (below_alloc1 _ _)) (by omega) (by omega)).mono ?_; rintro e w2 ⟨rfl, hb2⟩; have hS2 := below_on (below_alloc1 w _) hb2)
  go_ret
  exact ⟨rfl, hS2⟩
end Go.Proofs.Ytmncamnlmpajbaa

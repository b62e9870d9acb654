/-
  riddleref04.none: contract.
-/
import Derived.Test.YtmncamnlmpajbaaSName
namespace Go.Proofs.Ytmncamnlmpajbaa
open Go.RowKit

set_option maxRecDepth 100000 in
set_option maxHeartbeats 1600000 in
theorem rnone_t : ∀ (N : Nat) (t : T) (w : World) (R : Nat → Prop) (v : Value), t.bulk ≤ N → N ≤ 1048576 → T.In w R t v →
    Calls Try.prog 62 #[v] w fun e w' => e = .returned (.bool t.none) ∧ Below w.heap.size w w'
  | 0, t, _, _, _, hN, _, _ => by have := T.bulk_pos t; omega
  | N + 1, t, w, R, v, hN, hN2, h => by
    have ih := rnone_t N
    obtain ⟨A1, c1, A2, c2, A3, c3, rfl, hnames, hmag, hc3, hkids⟩ := h.open
    obtain ⟨n, hn⟩ : ∃ n, t.ks.length = n := ⟨_, rfl⟩
    obtain ⟨hl1, hl2, hl3, hl4, hlen⟩ := T.len_le hN
    rw [hn] at hkids hc3 hlen ⊢
    have HN := Lib.hid hn
    have HK := Lib.hid hkids
    have HB := Lib.hid hN
    have HNM := Lib.hid hnames
    have HMG := Lib.hid hmag
    clear hn hkids hN h hnames hmag
    go_enter Try.func62, Try.ntmps62
    go_upto_region 1 with (fail)
    obtain ⟨W1, hW1, pt, hb1⟩ := made_blk w #[.int .i64 t.k, .string t.nm, .slice A1 t.ns.length c1, .bool t.ng, .slice A2 t.mg.length c2, .slice A3 n c3] 35
    obtain ⟨Bt, hBt⟩ : ∃ b, b = w.heap.size := ⟨_, rfl⟩
    rw [← hW1, ← hBt]
    rw [← hBt] at pt
    clear hW1 hBt
    have HE := Lib.hid (T.none_eq t)
    obtain ⟨x0, x1, x2, x3, x4, x5⟩ := pt.six
    have key : ∀ (G : Bool), (t.k == 15 && bareB t.ng t.mg) = G → ∀ w0 : World, Below W1.heap.size W1 w0 → True := fun _ _ _ _ => trivial
    clear key
    by_cases hk : t.k = 15
    · obtain ⟨r, hr⟩ : ∃ r, bareB t.ng t.mg = r := ⟨_, rfl⟩
      have HR := Lib.hid hr
      have HKK : Hid ((t.k == 15 && bareB t.ng t.mg) = r) := Lib.hid (by rw [hr, hk]; simp)
      clear hr
      go_wp2_with (go_at_call 80; refine (zero_r _ _ _ _ _).mono ?_; rw [HR.out]; rintro e w2 ⟨rfl, hb2⟩; have hS2 := hb2; obtain ⟨y0, y1, y2, y3, y4, y5⟩ := (pt.below hb2).six)
      go_loopg [3, 4] (n + 1) (fun gk v3 v4 wr => ∃ (i : Nat) (q : Bool), gk + i = n + 1 ∧ i ≤ n ∧ v4 = .int .i64 (i : Nat) ∧ v3 = .bool q ∧ Hid (q = (r || T.nones (t.ks.take i))) ∧ Below W1.heap.size W1 wr)
      case atStart => exact ⟨0, r, by omega, Nat.zero_le _, rfl, rfl, Lib.hid (by simp [T.nones]), hS2⟩
      case round =>
        obtain ⟨i, q, hi, hin, rfl, rfl, HS, hS⟩ := hrel
        obtain ⟨x0, x1, x2, x3, x4, x5⟩ := (pt.below hS).six
        by_cases hlt : i < n
        · obtain ⟨b, o, rfl, hk⟩ := HK.out (by omega)
          have hkd := hk i hlt
          obtain ⟨u, hu⟩ : ∃ u, t.ks.getD i t0 = u := ⟨_, rfl⟩
          rw [hu] at hkd
          have hub : u.bulk ≤ N := by rw [← hu]; exact T.kid_bulk HB.out (by rw [HN.out]; exact hlt)
          have HU := Lib.hid hu
          clear hk hu
          obtain ⟨B1, d1, B2, d2, B3, d3, h6, hkin⟩ := hkd.below (below_on hb1 hS)
          have HI := Lib.hid hkin
          clear hkin
          obtain ⟨e0, e1, e2, e3, e4, e5⟩ := h6
          have hi0 : (0 : Int) ≤ i := by omega
          have hi1 : (i : Int) < n := by omega
          have hsn := T.nones_snoc (t.ks.take i) u
          rw [← HU.out, ← take_snoc _ t0 _ (by rw [HN.out]; exact hlt), HU.out] at hsn
          have HSN := Lib.hid hsn
          have hi2 : decide (i < n) = true := decide_eq_true hlt
          clear hsn
          obtain ⟨r, hr⟩ : ∃ r, u.none = r := ⟨_, rfl⟩
          have HR := Lib.hid hr
          clear hr
          cases q <;> cases r
          all_goals
            go_wp2_with (go_at_call 62; refine (ih u _ R _ hub (by omega) HI.out).mono ?_; rw [HR.out]; rintro e w2 ⟨rfl, hb2⟩; have hS2 := below_on hS hb2)
            go_roundg (n - i)
            case measure => omega
            case rel => exact ⟨i + 1, _, by omega, by omega, by go_num, rfl, Lib.hid (by rw [HSN.out, ← Bool.or_assoc, ← HS.out, HR.out]; rfl), hS2⟩
        · obtain rfl : i = n := by omega
          have htk : t.ks.take i = t.ks := by rw [← HN.out, List.take_length]
          have hf := HS.out
          rw [htk] at hf
          have HF := Lib.hid hf
          clear htk hf
          have hi2 : decide (i < i) = false := decide_eq_false (by omega)
          go_wp2_with fail
          go_ret
          exact ⟨by rw [HE.out, HKK.out, HF.out]; rfl, below_on hb1 hS⟩
    · have hkk : (t.k == 15) = false := by simp [hk]
      have HKK : Hid ((t.k == 15 && bareB t.ng t.mg) = false) := Lib.hid (by rw [hkk]; rfl)
      clear hk
      go_wp2_with fail
      go_loopg [3, 4] (n + 1) (fun gk v3 v4 wr => ∃ (i : Nat) (q : Bool), gk + i = n + 1 ∧ i ≤ n ∧ v4 = .int .i64 (i : Nat) ∧ v3 = .bool q ∧ Hid (q = (false || T.nones (t.ks.take i))) ∧ Below W1.heap.size W1 wr)
      case atStart => exact ⟨0, false, by omega, Nat.zero_le _, rfl, rfl, Lib.hid (by simp [T.nones]), Below.refl _ _⟩
      case round =>
        obtain ⟨i, q, hi, hin, rfl, rfl, HS, hS⟩ := hrel
        obtain ⟨x0, x1, x2, x3, x4, x5⟩ := (pt.below hS).six
        by_cases hlt : i < n
        · obtain ⟨b, o, rfl, hk⟩ := HK.out (by omega)
          have hkd := hk i hlt
          obtain ⟨u, hu⟩ : ∃ u, t.ks.getD i t0 = u := ⟨_, rfl⟩
          rw [hu] at hkd
          have hub : u.bulk ≤ N := by rw [← hu]; exact T.kid_bulk HB.out (by rw [HN.out]; exact hlt)
          have HU := Lib.hid hu
          clear hk hu
          obtain ⟨B1, d1, B2, d2, B3, d3, h6, hkin⟩ := hkd.below (below_on hb1 hS)
          have HI := Lib.hid hkin
          clear hkin
          obtain ⟨e0, e1, e2, e3, e4, e5⟩ := h6
          have hi0 : (0 : Int) ≤ i := by omega
          have hi1 : (i : Int) < n := by omega
          have hsn := T.nones_snoc (t.ks.take i) u
          rw [← HU.out, ← take_snoc _ t0 _ (by rw [HN.out]; exact hlt), HU.out] at hsn
          have HSN := Lib.hid hsn
          have hi2 : decide (i < n) = true := decide_eq_true hlt
          clear hsn
          obtain ⟨r, hr⟩ : ∃ r, u.none = r := ⟨_, rfl⟩
          have HR := Lib.hid hr
          clear hr
          cases q <;> cases r
          all_goals
            go_wp2_with (go_at_call 62; refine (ih u _ R _ hub (by omega) HI.out).mono ?_; rw [HR.out]; rintro e w2 ⟨rfl, hb2⟩; have hS2 := below_on hS hb2)
            go_roundg (n - i)
            case measure => omega
            case rel => exact ⟨i + 1, _, by omega, by omega, by go_num, rfl, Lib.hid (by rw [HSN.out, ← Bool.or_assoc, ← HS.out, HR.out]; rfl), hS2⟩
        · obtain rfl : i = n := by omega
          have htk : t.ks.take i = t.ks := by rw [← HN.out, List.take_length]
          have hf := HS.out
          rw [htk] at hf
          have HF := Lib.hid hf
          clear htk hf
          have hi2 : decide (i < i) = false := decide_eq_false (by omega)
          go_wp2_with fail
          go_ret
          exact ⟨by rw [HE.out, HKK.out, HF.out]; rfl, below_on hb1 hS⟩
end Go.Proofs.Ytmncamnlmpajbaa

/-
  syntax.bare, none, riddleref04.zero, none: contracts.
-/
import Derived.Test.YtmncamnlmpajbaaSRSize
namespace Go.Proofs.Ytmncamnlmpajbaa
open Go.RowKit

def bareB (ng : Bool) (mg : List Nat) : Bool := !ng && mg.length == 0
mutual
/-- Does some number divide by 0? -/
def T.none : T → Bool
  | .node k _ _ ng mg ks => (k == 15 && bareB ng mg) || T.nones ks
def T.nones : List T → Bool
  | [] => false
  | t :: r => t.none || T.nones r
end
theorem T.none_eq (t : T) : t.none = ((t.k == 15 && bareB t.ng t.mg) || T.nones t.ks) := by cases t; simp [T.none, T.k, T.ng, T.mg, T.ks]
theorem T.nones_snoc : ∀ (l : List T) (t : T), T.nones (l ++ [t]) = (T.nones l || t.none)
  | [], t => by simp [T.nones]
  | u :: r, t => by simp [T.nones, T.nones_snoc r t, Bool.or_assoc]
theorem T.nones_get : ∀ (l : List T) (i : Nat), i < l.length → (l.getD i t0).none = true → T.nones l = true
  | [], i, h, _ => absurd h (by simp)
  | t :: r, 0, _, h => by simp at h; simp [T.nones, h]
  | t :: r, i + 1, h, h2 => by
    have := T.nones_get r i (by simpa using h) (by simpa using h2)
    simp [T.nones, this]
set_option maxRecDepth 100000 in
theorem bare_x (w : World) (ng : Bool) (A : Option Addr) (c : Nat) (mg : List Nat) :
    Calls Try.prog 72 #[.agg #[.bool ng, .slice A mg.length c]] w fun e w' => e = .returned (.bool (bareB ng mg)) ∧ Below w.heap.size w w' := by
  obtain ⟨G, hG⟩ : ∃ G, bareB ng mg = G := ⟨_, rfl⟩
  rw [hG]
  obtain ⟨n, hn⟩ : ∃ n, mg.length = n := ⟨_, rfl⟩
  unfold bareB at hG
  rw [hn] at hG ⊢
  have hbw := below_alloc1 w (.cells #[.bool ng, .slice A n c] 32)
  have HG := Lib.hid hG
  clear hG hn
  cases ng
  · by_cases h0 : n = 0
    · subst h0
      go_enter Try.func72, Try.ntmps72
      go_wp2_with fail
      go_ret
      exact ⟨by rw [← HG.out]; rfl, hbw⟩
    · have h1 : ((n : Int) == 0) = false := by simp; omega
      go_enter Try.func72, Try.ntmps72
      go_wp2_with fail
      go_ret
      exact ⟨by rw [← HG.out]; simp [h0], hbw⟩
  · go_enter Try.func72, Try.ntmps72
    go_wp2_with fail
    go_ret
    exact ⟨by rw [← HG.out]; rfl, hbw⟩
set_option maxRecDepth 100000 in
theorem zero_r (w : World) (ng : Bool) (A : Option Addr) (c : Nat) (mg : List Nat) :
    Calls Try.prog 80 #[.agg #[.bool ng, .slice A mg.length c]] w fun e w' => e = .returned (.bool (bareB ng mg)) ∧ Below w.heap.size w w' := by
  obtain ⟨G, hG⟩ : ∃ G, bareB ng mg = G := ⟨_, rfl⟩
  rw [hG]
  obtain ⟨n, hn⟩ : ∃ n, mg.length = n := ⟨_, rfl⟩
  unfold bareB at hG
  rw [hn] at hG ⊢
  have hbw := below_alloc1 w (.cells #[.bool ng, .slice A n c] 32)
  have HG := Lib.hid hG
  clear hG hn
  cases ng
  · by_cases h0 : n = 0
    · subst h0
      go_enter Try.func80, Try.ntmps80
      go_wp2_with fail
      go_ret
      exact ⟨by rw [← HG.out]; rfl, hbw⟩
    · have h1 : ((n : Int) == 0) = false := by simp; omega
      go_enter Try.func80, Try.ntmps80
      go_wp2_with fail
      go_ret
      exact ⟨by rw [← HG.out]; simp [h0], hbw⟩
  · go_enter Try.func80, Try.ntmps80
    go_wp2_with fail
    go_ret
    exact ⟨by rw [← HG.out]; rfl, hbw⟩
set_option maxRecDepth 100000 in
set_option maxHeartbeats 1600000 in
theorem index_none (N : Nat) (hN2 : N ≤ 1048576) (ih : ∀ (t : T) (w : World) (R : Nat → Prop) (v : Value), t.bulk ≤ N → N ≤ 1048576 → T.In w R t v → Calls Try.prog 53 #[v] w fun e w' => e = .returned (.bool t.none) ∧ Below w.heap.size w w')
    (w : World) (R : Nat → Prop) (A : Option Addr) (c : Nat) (ks : List T) (hcap : ks.length ≤ c) (hl : ks.length ≤ 1048576) (hkid : 0 < ks.length → ∃ b o, A = some ⟨b, o, Option.none⟩ ∧ ∀ i, i < ks.length → KidAt w R b (o + i * 6) (ks.getD i t0)) (hb : ∀ i, i < ks.length → (ks.getD i t0).bulk ≤ N) :
    Calls Try.prog 95 #[.slice A ks.length c, .func (.func 53) #[] #[]] w fun e w' => ∃ z : Int, e = .returned (.int .i64 z) ∧ decide (0 ≤ z) = T.nones ks ∧ Below w.heap.size w w' := by
  obtain ⟨n, hn⟩ : ∃ n, ks.length = n := ⟨_, rfl⟩
  rw [hn] at hcap hl hkid hb ⊢
  have HN := Lib.hid hn
  have HK := Lib.hid hkid
  have HB := Lib.hid hb
  clear hn hkid hb
  go_enter Try.func95, Try.ntmps95
  go_wp2_with fail
  go_loopg [8] (n + 1) (fun gk v8 wr => ∃ i : Nat, gk + i = n + 1 ∧ i ≤ n ∧ v8 = .int .i64 (i : Nat) ∧ Hid (T.nones (ks.take i) = false) ∧ Below w.heap.size w wr)
  case atStart => exact ⟨0, by omega, Nat.zero_le _, rfl, Lib.hid (by simp [T.nones]), Below.refl _ _⟩
  case round =>
    obtain ⟨i, hi, hin, rfl, HS, hbw⟩ := hrel
    by_cases hlt : i < n
    · obtain ⟨b, o, rfl, hk⟩ := HK.out (by omega)
      have hkd := hk i hlt
      have hub := HB.out i hlt
      have hget := T.nones_get ks i (by rw [HN.out]; exact hlt)
      have hsn := T.nones_snoc (ks.take i) (ks.getD i t0)
      rw [← take_snoc _ t0 _ (by rw [HN.out]; exact hlt)] at hsn
      obtain ⟨u, hu⟩ : ∃ u, ks.getD i t0 = u := ⟨_, rfl⟩
      rw [hu] at hkd hub hget hsn
      have HGET := Lib.hid hget
      have HSN := Lib.hid hsn
      clear hk hu hget hsn
      obtain ⟨B1, d1, B2, d2, B3, d3, h6, hkin⟩ := hkd.below hbw
      have HI := Lib.hid hkin
      clear hkin
      obtain ⟨e0, e1, e2, e3, e4, e5⟩ := h6
      have hi0 : (0 : Int) ≤ i := by omega
      have hi1 : (i : Int) < n := by omega
      obtain ⟨r, hr⟩ : ∃ r, u.none = r := ⟨_, rfl⟩
      have HR := Lib.hid hr
      clear hr
      cases r
      · go_wp2_with (go_at_call 53; refine (ih u _ R _ hub (by omega) HI.out).mono ?_; rw [HR.out]; rintro e w2 ⟨rfl, hb2⟩; have hbw2 := below_on hbw hb2)
        go_roundg (n - i)
        case measure => omega
        case rel => exact ⟨i + 1, by omega, by omega, by go_num, Lib.hid (by rw [HSN.out, HS.out, HR.out]; rfl), hbw2⟩
      · go_wp2_with (go_at_call 53; refine (ih u _ R _ hub (by omega) HI.out).mono ?_; rw [HR.out]; rintro e w2 ⟨rfl, hb2⟩; have hbw2 := below_on hbw hb2)
        go_ret
        exact ⟨_, rfl, by rw [HGET.out HR.out]; exact decide_eq_true hi0, hbw2⟩
    · obtain rfl : i = n := by omega
      have htk : ks.take i = ks := by rw [← HN.out, List.take_length]
      have hf := HS.out
      rw [htk] at hf
      have HF := Lib.hid hf
      clear htk hf
      go_wp2_with fail
      go_ret
      exact ⟨_, rfl, by rw [HF.out]; rfl, hbw⟩
set_option maxRecDepth 100000 in
theorem contains_none (N : Nat) (hN2 : N ≤ 1048576) (ih : ∀ (t : T) (w : World) (R : Nat → Prop) (v : Value), t.bulk ≤ N → N ≤ 1048576 → T.In w R t v → Calls Try.prog 53 #[v] w fun e w' => e = .returned (.bool t.none) ∧ Below w.heap.size w w')
    (w : World) (R : Nat → Prop) (A : Option Addr) (c : Nat) (ks : List T) (hcap : ks.length ≤ c) (hl : ks.length ≤ 1048576) (hkid : 0 < ks.length → ∃ b o, A = some ⟨b, o, Option.none⟩ ∧ ∀ i, i < ks.length → KidAt w R b (o + i * 6) (ks.getD i t0)) (hb : ∀ i, i < ks.length → (ks.getD i t0).bulk ≤ N) :
    Calls Try.prog 74 #[.slice A ks.length c, .func (.func 53) #[] #[]] w fun e w' => e = .returned (.bool (T.nones ks)) ∧ Below w.heap.size w w' := by
  have H := Lib.hid (index_none N hN2 ih w R A c ks hcap hl hkid hb)
  obtain ⟨n, hn⟩ : ∃ n, ks.length = n := ⟨_, rfl⟩
  rw [hn] at H ⊢
  clear hkid hb ih hn hcap hl
  go_enter Try.func74, Try.ntmps74
  go_wp2_with (go_at_call 95; refine H.out.mono ?_; rintro e w2 ⟨z, rfl, hz, hb2⟩)
  go_ret
  exact ⟨by rw [← hz]; simp, hb2⟩
set_option maxRecDepth 100000 in
set_option maxHeartbeats 1600000 in
theorem none_t : ∀ (N : Nat) (t : T) (w : World) (R : Nat → Prop) (v : Value), t.bulk ≤ N → N ≤ 1048576 → T.In w R t v →
    Calls Try.prog 53 #[v] w fun e w' => e = .returned (.bool t.none) ∧ Below w.heap.size w w'
  | 0, t, _, _, _, hN, _, _ => by have := T.bulk_pos t; omega
  | N + 1, t, w, R, v, hN, hN2, h => by
    have ih := none_t N
    obtain ⟨A1, c1, A2, c2, A3, c3, rfl, hnames, hmag, hc3, hkids⟩ := h.open
    obtain ⟨n, hn⟩ : ∃ n, t.ks.length = n := ⟨_, rfl⟩
    obtain ⟨hl1, hl2, hl3, hl4, hlen⟩ := T.len_le hN
    rw [hn] at hkids hc3 hlen ⊢
    have HN := Lib.hid hn
    have HK := Lib.hid hkids
    have HB := Lib.hid hN
    have HNM := Lib.hid hnames
    have HMG := Lib.hid hmag
    clear hn hkids hN h hnames hmag
    go_enter Try.func53, Try.ntmps53
    go_upto_region 1 with (fail)
    obtain ⟨W1, hW1, pt, hb1⟩ := made_blk w #[.int .i64 t.k, .string t.nm, .slice A1 t.ns.length c1, .bool t.ng, .slice A2 t.mg.length c2, .slice A3 n c3] 35
    obtain ⟨Bt, hBt⟩ : ∃ b, b = w.heap.size := ⟨_, rfl⟩
    rw [← hW1, ← hBt]
    rw [← hBt] at pt
    clear hW1 hBt
    have hS := Below.refl W1.heap.size W1
    obtain ⟨x0, x1, x2, x3, x4, x5⟩ := pt.six
    have hcn := contains_none N (by omega) ih
    have HC := Lib.hid hcn
    have hbu : ∀ i, i < t.ks.length → (t.ks.getD i t0).bulk ≤ N := fun i hi => T.kid_bulk HB.out hi
    have HBU := Lib.hid hbu
    clear hcn hbu
    have HCC : Hid (∀ w', Below W1.heap.size W1 w' → Calls Try.prog 74 #[.slice A3 n c3, .func (.func 53) #[] #[]] w' fun e w'' => e = .returned (.bool (T.nones t.ks)) ∧ Below w'.heap.size w' w'') := Lib.hid (fun w' hb' => by
      have := HC.out w' R A3 c3 t.ks (by rw [HN.out]; exact hc3) (by rw [HN.out]; omega) (by
        rw [HN.out]
        intro h0
        obtain ⟨b, o, e, hk⟩ := HK.out h0
        exact ⟨b, o, e, fun i hi => (hk i hi).below (below_on hb1 hb')⟩) HBU.out
      rwa [HN.out] at this)
    have HE := Lib.hid (T.none_eq t)
    by_cases hk : t.k = 15
    · have hkk : (t.k == 15) = true := by simp [hk]
      obtain ⟨r, hr⟩ : ∃ r, bareB t.ng t.mg = r := ⟨_, rfl⟩
      have HR := Lib.hid hr
      clear hr hk
      cases r
      · go_wp2_with (first
          | (go_at_call 72; refine (bare_x _ _ _ _ _).mono ?_; rw [HR.out]; rintro e w2 ⟨rfl, hb2⟩; have hS2 := below_on hS hb2; obtain ⟨y0, y1, y2, y3, y4, y5⟩ := (pt.below hb2).six)
          | (go_at_call 74; refine (HCC.out _ hS2).mono ?_; rintro e w3 ⟨rfl, hb3⟩; have hS3 := below_on hS2 hb3))
        go_ret
        exact ⟨by rw [HE.out, HR.out]; simp, below_on hb1 hS3⟩
      · go_wp2_with (first
          | (go_at_call 72; refine (bare_x _ _ _ _ _).mono ?_; rw [HR.out]; rintro e w2 ⟨rfl, hb2⟩; have hS2 := below_on hS hb2))
        go_ret
        exact ⟨by rw [HE.out, hkk, HR.out]; rfl, below_on hb1 hS2⟩
    · have hkk : (t.k == 15) = false := by simp [hk]
      clear hk
      go_wp2_with (go_at_call 74; refine (HCC.out _ hS).mono ?_; rintro e w3 ⟨rfl, hb3⟩; have hS3 := below_on hS hb3)
      go_ret
      exact ⟨by rw [HE.out, hkk]; simp, below_on hb1 hS3⟩
end Go.Proofs.Ytmncamnlmpajbaa

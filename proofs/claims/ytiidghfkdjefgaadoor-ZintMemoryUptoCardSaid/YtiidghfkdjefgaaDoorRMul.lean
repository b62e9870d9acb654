/-
  riddleref01: Mul, Quo, DivMod, Lcm: contracts.
-/
import Derived.Test.YtiidghfkdjefgaaDoorRAdd
namespace Go.Proofs.YtiidghfkdjefgaaDoor
open Go.RowKit

theorem splice_one (n : Nat) (r : List Nat) (h : r.length = n) : splice (List.replicate (n + 1) 0) 1 r = 0 :: r := by
  simp [splice, List.replicate_succ, h, Nat.add_comm]
theorem N.nv_drop_le (l : List Nat) (k : Nat) (h : k ≤ l.length) : N.nv (l.drop k) ≤ N.nv l := by
  have h1 := N.nv_split l k
  rw [Nat.min_eq_left h] at h1
  have h2 := Nat.le_mul_of_pos_left (N.nv (l.drop k)) (Nat.pow_pos (n := k) (show 0 < 4294967296 by omega))
  omega
theorem pow_bound {x y K L : Nat} (h1 : x < 4294967296 ^ K) (h2 : y < 4294967296 ^ L) {z : Nat} (hz : z ≤ x * y) : z < 4294967296 ^ (K + L) := by
  rw [Nat.pow_add]
  rcases Nat.eq_zero_or_pos y with h0 | h0
  · subst h0
    rw [Nat.mul_zero] at hz
    have := Nat.mul_pos (Nat.pow_pos (n := K) (show 0 < 4294967296 by omega)) (Nat.pow_pos (n := L) (show 0 < 4294967296 by omega))
    omega
  · exact Nat.lt_of_le_of_lt hz (Nat.mul_lt_mul_of_lt_of_le h1 (Nat.le_of_lt h2) (by omega))

set_option maxRecDepth 100000 in
set_option maxHeartbeats 1600000 in
theorem rmul_any (w : World) (A : Option Addr) (n c : Nat) (a : List Nat) (B : Option Addr) (m d : Nat) (b : List Nat) (ha : Sl w A n c a) (hb : Sl w B m d b) (hn : n ≤ 4398046511104) (hm : m ≤ 4398046511104) :
    Calls Tryd.prog 70 #[.slice A n c, .slice B m d] w fun e w' => ∃ g n' c', e = .returned (.slice (some ⟨g, 0, none⟩) n' c') ∧ Own w' w.heap.size g n' c' (N.ofN (N.nv a * N.nv b)) ∧ Below w.heap.size w w' := by
  obtain ⟨i0, hi, hz0, hz1, hz2⟩ := info_parts info_u32
  have hna := N.nv_lt ha.lim
  rw [ha.len] at hna
  have hnb := N.nv_lt hb.lim
  rw [hb.len] at hnb
  have hxlen := N.nv_len_le ha.lim
  rw [ha.len] at hxlen
  go_enter Tryd.func70, Tryd.ntmps70
  go_wp2_with fail
  refine (rtrim_any _ A n c a ha (by omega)).mono ?_
  rintro e w1 ⟨gx, nx, cx, rfl, hox, hb1⟩
  have hvx := N.nv_ofN (N.nv a)
  have hlx := hox.len
  rw [hlx] at hxlen
  have HNA := Lib.hid hna
  have HNB := Lib.hid hnb
  clear hna hnb
  have HVX := Lib.hid hvx
  have HLX := Lib.hid hlx
  clear hvx hlx
  have hxl := hox.sl
  have hlimx := hox.lim
  clear hox
  generalize N.ofN (N.nv a) = x at *
  go_wp2_with fail
  go_loopw [6, 7] (fun v6 v7 wr => ∃ (r : Nat) (C : Option Addr) (k e : Nat) (X : Nat), r ≤ nx ∧ ((r = 0 ∧ v7 = .int .i64 (-1)) ∨ ∃ j : Nat, r = j + 1 ∧ v7 = .int .i64 j) ∧ v6 = .slice C k e ∧ Sl wr C k e (N.ofN X) ∧ X = N.nv (x.drop r) * N.nv b ∧ Below w1.heap.size w1 wr) (fun _ v7 _ => (intOf v7 + 1).toNat)
  case atStart =>
    refine ⟨nx, none, 0, 0, 0, Nat.le_refl _, ?_, rfl, Sl.nil _ _ _, ?_, Below.refl _ _⟩
    · by_cases h0 : nx = 0
      · subst h0; exact .inl ⟨rfl, rfl⟩
      · exact .inr ⟨nx - 1, by omega, by go_num⟩
    · rw [← HLX.out, List.drop_length]; simp [N.nv]
  case round =>
    obtain ⟨r, C, k, e, X, hr, hcase, rfl, hsl, hX, hbw⟩ := hrel
    have hs1z := hb1.size
    have hz := hbw.size
    have hkl := hsl.len
    have hXb : X < 4294967296 ^ (n + m) := pow_bound HNA.out HNB.out (by
      rw [hX, ← HVX.out]; exact Nat.mul_le_mul_right _ (N.nv_drop_le _ _ (by rw [HLX.out]; exact hr)))
    have hkb : k ≤ n + m := by have := N.ofN_length_le hXb; omega
    have HX := Lib.hid hX
    have HKL := Lib.hid hkl
    clear hX hXb hkl
    rcases hcase with ⟨rfl, rfl⟩ | ⟨j, rfl, rfl⟩
    · go_wp2_with (go_at_call 55; refine (rtrim_any _ C k e _ hsl (by omega)).mono ?_; rintro e w5 ⟨g5, n5, c5, rfl, ho5, hb5⟩)
      go_ret
      have e := HX.out
      rw [List.drop_zero, HVX.out] at e
      rw [N.nv_ofN, e] at ho5
      have hbw' := hb1.trans (hbw.mono hs1z)
      exact ⟨_, _, _, rfl, ho5.mono hbw'.size, hbw'.trans (hb5.mono hbw'.size)⟩
    · obtain ⟨bx, ox, hax, hcx⟩ := (hxl.below hbw).cells (by omega)
      obtain ⟨rfl, rfl⟩ : gx = bx ∧ 0 = ox := by injection hax with h; injection h with h1 h2; exact ⟨h1, h2⟩
      have hcj := hcx j (by omega)
      rw [Nat.zero_add] at hcj
      clear hcx hax
      have hp := N.dg_lt hlimx j
      have hdr := N.nv_drop x j (by rw [HLX.out]; omega)
      obtain ⟨p, hpe⟩ : ∃ p, N.dg x j = p := ⟨_, rfl⟩
      rw [hpe] at hcj hp hdr
      have HDR := Lib.hid hdr
      clear hdr hpe
      have hlr := N.lim_ofN X
      have hnv0 : N.nv (0 :: N.ofN X) = 4294967296 * X := by rw [N.nv_cons, N.nv_ofN, Nat.zero_add]
      have HNV := Lib.hid hnv0
      clear hnv0
      go_wp2_with (first
        | (at_make; refine wpList_make_lim _ rfl (.tmp 20) (.tmp 20) 22 rfl i0 Tryd.underlying22 hi hz0 hz1 hz2 .i64 .i64 _ _ (k + 1) rfl rfl (by omega) (by omega) (by omega) ?_; intro w2 ho2 hb2; have hs2 := hsl.below hb2)
        | (with_reducible refine at_copy ?_; refine wpList_copy_lim rfl (.tmp 23) (.tmp 24) _ _ rfl Tryd.underlying22 info_size32 _ _ _ _ _ _ rfl rfl _ _ _ _ 1 _ ho2 (N.ofN X) hs2 k (by first | exact (Nat.min_self _).symm | simp) (fun h => if_neg (by omega)) (by omega) (0 :: N.ofN X) (by rw [List.take_of_length_le (by rw [HKL.out]; exact Nat.le_refl _)]; exact splice_one _ _ HKL.out) wr.heap.size wr hb2 (Nat.le_refl _) ?_; intro w3 ho3 hb3; have hcj3 := (hb3.cell (World.block_lt_of_cell? _ _ hcj)).trans hcj; have hB3 := (hb.below (hb1.trans (hbw.mono hs1z))).below hb3)
        | (go_at_call 85; refine (rtimes_any _ B m d b p 0 _ _ rfl rfl hB3 (by omega) hp (by omega)).mono ?_; rintro e4 w4 ⟨g4, n4, c4, rfl, ho4, hb4⟩; have hz4 := ho4.len; have hs4 := ho3.sl.below hb4)
        | (go_at_call 68; refine (radd_any _ _ _ _ _ _ _ _ _ hs4 ho4.sl (by omega) (by have h1 := N.ofN_length_le (n := N.nv b * p + 0) (k := m + 1) (by rw [Nat.add_zero, Nat.pow_succ]; exact Nat.mul_lt_mul_of_lt_of_le HNB.out (Nat.le_of_lt hp) (by omega)); omega)).mono ?_; rintro e5 w5 ⟨g5, n5, c5, rfl, ho5, hb5⟩))
      all_goals
        have hb35 := hb3.trans ((hb4.mono hb3.size).trans (hb5.mono (Nat.le_trans hb3.size hb4.size)))
        go_roundw
        case rel =>
          refine ⟨j, _, _, _, N.nv (x.drop j) * N.nv b, by omega, ?_, rfl, ?_, rfl, hbw.trans (hb35.mono hz)⟩
          · by_cases hj0 : j = 0
            · subst hj0; exact .inl ⟨rfl, rfl⟩
            · exact .inr ⟨j - 1, by omega, by go_num⟩
          · have e : N.nv (0 :: N.ofN X) + N.nv (N.ofN (N.nv b * p + 0)) = N.nv (x.drop j) * N.nv b := by
              rw [HNV.out, N.nv_ofN, HDR.out, HX.out, Nat.add_mul, Nat.mul_assoc, Nat.mul_comm p]; omega
            rw [e] at ho5
            exact ho5.sl
        case measure => simp [intOf]

set_option maxRecDepth 100000 in
set_option maxHeartbeats 800000 in
theorem rquo_any (w : World) (A : Option Addr) (n c : Nat) (a : List Nat) (b : Nat) (ha : Sl w A n c a) (hn : n ≤ 35184372088832) (hb0 : 0 < b) (hb : b < 4294967296) :
    Calls Tryd.prog 93 #[.slice A n c, .int .u32 b] w fun e w' => ∃ g n' c', e = .returned (.tuple #[.slice (some ⟨g, 0, none⟩) n' c', .int .u32 (N.nv a % b : Nat)]) ∧ Own w' w.heap.size g n' c' (N.ofN (N.nv a / b)) ∧ Below w.heap.size w w' := by
  obtain ⟨i0, hi, hz0, hz1, hz2⟩ := info_parts info_u32
  have hlen := ha.len
  have hlim := ha.lim
  go_enter Tryd.func93, Tryd.ntmps93
  have HL := Lib.hid hlen
  clear hlen
  go_wp2_with (at_make; refine wpList_make_lim _ rfl (.tmp 10) (.tmp 10) 22 rfl i0 Tryd.underlying22 hi hz0 hz1 hz2 .i64 .i64 _ _ n rfl rfl (by omega) (by omega) (by omega) ?_; intro w1 ho1 hb1)
  go_loopw [7, 8] (fun v7 v8 wr => Below w.heap.size w wr ∧ ((v8 = .int .i64 (-1) ∧ v7 = .int .u64 (N.nv a % b : Nat) ∧ Own wr w.heap.size w.heap.size n n (N.divQ b a)) ∨
      ∃ j : Nat, j < n ∧ v8 = .int .i64 j ∧ v7 = .int .u64 (N.nv (a.drop (j + 1)) % b : Nat) ∧ Own wr w.heap.size w.heap.size n n (N.divS b a (j + 1)))) (fun _ v8 _ => (intOf v8 + 1).toNat)
  case atStart =>
    refine ⟨by assumption, ?_⟩
    have ho := ‹Own _ w.heap.size w.heap.size n n (List.replicate n 0)›
    by_cases h0 : n = 0
    · subst h0
      have : a = [] := List.eq_nil_of_length_eq_zero HL.out
      subst this
      exact .inl ⟨rfl, rfl, ho⟩
    · refine .inr ⟨n - 1, by omega, by go_num, ?_, ?_⟩
      · rw [show n - 1 + 1 = a.length from by have := HL.out; omega, List.drop_length]; rfl
      · rw [show n - 1 + 1 = a.length from by have := HL.out; omega, N.divS_none, HL.out]; exact ho
  case round =>
    obtain ⟨hbw, hrel⟩ := hrel
    rcases hrel with ⟨rfl, rfl, hown⟩ | ⟨j, hj, rfl, rfl, hown⟩
    · have hr := Nat.mod_lt (N.nv a) hb0
      go_wp2_with (go_at_call 55; refine (rtrim_any _ _ _ _ _ hown.sl (by omega)).mono ?_; rintro e w5 ⟨g5, n5, c5, rfl, ho5, hb5⟩)
      go_ret2
      rw [N.divQ_nv hb0] at ho5
      exact ⟨g5, n5, c5, rfl, ho5.mono hbw.size, hbw.trans (hb5.mono hbw.size)⟩
    · have hr := Nat.mod_lt (N.nv (a.drop (j + 1))) hb0
      obtain ⟨bx, ox, rfl, hcx⟩ := (ha.below hbw).cells (by omega)
      have hc1 := hcx j hj
      have hx := N.dg_lt hlim j
      clear hcx
      have hc3 := hown.cell j hj
      have hf3 := hown.free j
      have hmod := N.divQ_mod b (N.dg a j) (a.drop (j + 1))
      have HM := Lib.hid hmod
      clear hmod
      have hstep := N.divS_step b a j (by have := HL.out; omega)
      have hds : a.drop j = N.dg a j :: a.drop (j + 1) := by rw [List.drop_eq_getElem_cons (by have := HL.out; omega), N.dg_get a j (by have := HL.out; omega)]
      have HS := Lib.hid hstep
      have HD := Lib.hid hds
      clear hstep hds
      generalize N.nv (a.drop (j + 1)) % b = r at *
      generalize N.dg a j = x at *
      have hql := quo_lt hr hx
      have hyr : (r : Int) * 4294967296 + (x : Int) = ((r * 4294967296 + x : Nat) : Int) := by omega
      have hyb : r * 4294967296 + x < 18446744073709551616 := by omega
      generalize r * 4294967296 + x = y at *
      have hq1 : (y : Int) / (b : Int) ≤ 4294967295 := by rw [← Int.natCast_ediv]; omega
      have hq0 : 0 ≤ (y : Int) / (b : Int) := by rw [← Int.natCast_ediv]; exact Int.natCast_nonneg _
      have hb1 : 1 ≤ (b : Int) := by omega
      go_wp2_with fail
      go_roundw
      case rel =>
        have hnew := hown.set' j (y / b) hql _ (Int.natCast_ediv y b).symm
        rw [HS.out] at hnew
        refine ⟨hbw.setCell (Nat.le_refl _) _, ?_⟩
        by_cases hj0 : j = 0
        · subst hj0
          refine .inl ⟨rfl, ?_, ?_⟩
          · have e := HM.out
            rw [← HD.out, List.drop_zero] at e
            rw [← e]; go_num
          · rw [← N.divS_all]; exact hnew
        · refine .inr ⟨j - 1, by omega, by go_num, ?_, ?_⟩
          · rw [show j - 1 + 1 = j from by omega]
            have e := HM.out
            rw [← HD.out] at e
            rw [← e]; go_num
          · rw [show j - 1 + 1 = j from by omega]; exact hnew
      case measure => simp [intOf]
end Go.Proofs.YtiidghfkdjefgaaDoor

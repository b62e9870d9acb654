/-
  riddleref01: DivMod, Lcm, Gcd: contracts.
-/
import Derived.Test.YtiidghfkdjefgaaDoorRMul
namespace Go.Proofs.YtiidghfkdjefgaaDoor
open Go.RowKit

theorem N.divS_dg_zero (b : Nat) (a : List Nat) (j : Nat) : N.dg (N.divS b a (j + 1)) j = 0 := by
  unfold N.divS
  rw [N.dg_append_left _ _ _ (by simp), N.dg_rep]
theorem N.set_dg (l : List Nat) (j : Nat) (h : j < l.length) : l.set j (N.dg l j) = l := by
  rw [N.dg_get l j h]; exact List.set_getElem_self h
theorem geq_cmp {x y : Nat} (h : y ≤ x) : decide (N.cmpN x y ≥ 0) = true ∧ decide (0 ≤ N.cmpN x y) = true := by
  rcases N.cmpN_cases x y with ⟨h1, e⟩ | ⟨h1, e⟩ | ⟨h1, e⟩
  · omega
  · rw [e]; exact ⟨rfl, rfl⟩
  · rw [e]; exact ⟨rfl, rfl⟩
theorem lss_cmp {x y : Nat} (h : x < y) : decide (N.cmpN x y ≥ 0) = false ∧ decide (0 ≤ N.cmpN x y) = false := by
  rw [N.cmpN_lt h]; exact ⟨rfl, rfl⟩

set_option maxRecDepth 100000 in
set_option maxHeartbeats 1600000 in
theorem rdm_any (w : World) (A : Option Addr) (n c : Nat) (a : List Nat) (B : Option Addr) (m d : Nat) (b : List Nat) (ha : Sl w A n c a) (hb : Sl w B m d b) (hn : n ≤ 4398046511104) (hm : m ≤ 4398046511104) (hY0 : 0 < N.nv b) :
    Calls Tryd.prog 54 #[.slice A n c, .slice B m d] w fun e w' => ∃ g1 n1 c1 g2 n2 c2, e = .returned (.tuple #[.slice (some ⟨g1, 0, none⟩) n1 c1, .slice (some ⟨g2, 0, none⟩) n2 c2]) ∧ Own w' w.heap.size g1 n1 c1 (N.ofN (N.nv a / N.nv b)) ∧ Own w' w.heap.size g2 n2 c2 (N.ofN (N.nv a % N.nv b)) ∧ Below w.heap.size w w' := by
  obtain ⟨i0, hi, hz0, hz1, hz2⟩ := info_parts info_u32
  have hylen := N.nv_len_le hb.lim
  rw [hb.len] at hylen
  have hlim := ha.lim
  have hal := ha.len
  have HAL := Lib.hid hal
  clear hal
  obtain ⟨Y, hYe⟩ : ∃ Y, N.nv b = Y := ⟨_, rfl⟩
  rw [hYe] at hY0 hylen ⊢
  have HYE := Lib.hid hYe
  clear hYe
  go_enter Tryd.func54, Tryd.ntmps54
  go_wp2_with fail
  refine (rtrim_any _ B m d b hb (by omega)).mono ?_
  rintro e w1 ⟨gy, ny, cy, rfl, hoy, hb1⟩
  rw [HYE.out] at hoy
  have hly := hoy.len
  rw [hly] at hylen
  have HLY := Lib.hid hly
  clear hly
  have hyl := hoy.sl
  clear hoy
  have ha1 := ha.below hb1
  have hz1' := hb1.size
  clear ha hb
  go_wp2_with (at_make; refine wpList_make_lim _ rfl (.tmp 15) (.tmp 15) 22 rfl i0 Tryd.underlying22 hi hz0 hz1 hz2 .i64 .i64 _ _ n rfl rfl (by omega) (by omega) (by omega) ?_; intro w2 ho2 hb2)
  go_loopw [8, 9] (fun v8 v9 wr => ∃ (C : Option Addr) (k e : Nat), v8 = .slice C k e ∧ Below w1.heap.size w1 wr ∧ ((v9 = .int .i64 (-1) ∧ Sl wr C k e (N.ofN (N.nv a % Y)) ∧ Own wr w1.heap.size w1.heap.size n n (N.divQ Y a)) ∨
      ∃ j : Nat, j < n ∧ v9 = .int .i64 j ∧ Sl wr C k e (N.ofN (N.nv (a.drop (j + 1)) % Y)) ∧ Own wr w1.heap.size w1.heap.size n n (N.divS Y a (j + 1)))) (fun _ v9 _ => (intOf v9 + 1).toNat)
  case atStart =>
    refine ⟨none, 0, 0, rfl, hb2, ?_⟩
    by_cases h0 : n = 0
    · subst h0
      have : a = [] := List.eq_nil_of_length_eq_zero HAL.out
      subst this
      exact .inl ⟨rfl, by simp only [N.nv, Nat.zero_mod]; exact Sl.nil _ _ _, ho2⟩
    · refine .inr ⟨n - 1, by omega, by go_num, ?_, ?_⟩
      · rw [show n - 1 + 1 = a.length from by have := HAL.out; omega, List.drop_length]; simp only [N.nv, Nat.zero_mod]; exact Sl.nil _ _ _
      · rw [show n - 1 + 1 = a.length from by have := HAL.out; omega, N.divS_none, HAL.out]; exact ho2
  case round =>
    obtain ⟨C, k, e, rfl, hbw, hrel⟩ := hrel
    rcases hrel with ⟨rfl, hsl, hown⟩ | ⟨j, hj, rfl, hsl, hown⟩
    · have hrl := Nat.mod_lt (N.nv a) hY0
      have hkl : k ≤ m := by
        have h1 := hsl.len
        have h2 := N.ofN_length_mono (Nat.le_of_lt hrl)
        have h3 := HLY.out
        omega
      go_wp2_with (first
        | (go_at_call_of 55 w1.heap.size; refine (rtrim_any _ _ _ _ _ hown.sl (by omega)).mono ?_; rintro e5 w5 ⟨g5, n5, c5, rfl, ho5, hb5⟩; have hsl5 := hsl.below hb5)
        | (go_at_call 55; refine (rtrim_any _ _ _ _ _ hsl5 (by omega)).mono ?_; rintro e6 w6 ⟨g6, n6, c6, rfl, ho6, hb6⟩))
      go_ret2
      rw [N.divQ_nv hY0] at ho5
      rw [N.nv_ofN] at ho6
      have hz := hbw.size
      have hbw' := hb1.trans (hbw.mono hz1')
      have h56 := hb5.trans (hb6.mono hb5.size)
      exact ⟨_, _, _, _, _, _, rfl, (ho5.below hb6).mono hbw'.size, ho6.mono (Nat.le_trans hbw'.size hb5.size), hbw'.trans (h56.mono hbw'.size)⟩
    · have hR := Nat.mod_lt (N.nv (a.drop (j + 1))) hY0
      have hdl := N.dg_lt hlim j
      have hstep := N.divS_step Y a j (by have := HAL.out; omega)
      have hmod := N.divQ_mod Y (N.dg a j) (a.drop (j + 1))
      have hds : a.drop j = N.dg a j :: a.drop (j + 1) := by rw [List.drop_eq_getElem_cons (by have := HAL.out; omega), N.dg_get a j (by have := HAL.out; omega)]
      rw [← hds] at hmod
      have hz0' := N.divS_dg_zero Y a j
      have hLl := hown.len
      obtain ⟨R, hRe⟩ : ∃ R, N.nv (a.drop (j + 1)) % Y = R := ⟨_, rfl⟩
      obtain ⟨D, hDe⟩ : ∃ D, N.dg a j = D := ⟨_, rfl⟩
      obtain ⟨L, hLe⟩ : ∃ L, N.divS Y a (j + 1) = L := ⟨_, rfl⟩
      rw [hRe] at hR hsl hstep hmod
      rw [hDe] at hdl hstep hmod
      rw [hLe] at hown hstep hz0' hLl
      have hset0 : L.set j 0 = L := by have := N.set_dg L j (by omega); rw [hz0'] at this; exact this
      have HSTEP := Lib.hid hstep
      have HMOD := Lib.hid hmod
      have HDE := Lib.hid hDe
      have HSET := Lib.hid hset0
      have HLL := Lib.hid hLl
      clear hstep hmod hds hRe hDe hLe hset0 hz0' hLl
      have hz := hbw.size
      go_wp2_with fail
      obtain ⟨wo, rfl⟩ : ∃ wo : World, wo = wr := ⟨_, rfl⟩
      go_loopw [8, 10] (fun v8 v10 wr => ∃ (C : Option Addr) (l e κ : Nat), κ ≤ 32 ∧ v8 = .slice C l e ∧ ((κ = 0 ∧ v10 = .int .i64 (-1)) ∨ ∃ t : Nat, κ = t + 1 ∧ v10 = .int .i64 t) ∧ Below w1.heap.size w1 wr ∧ Sl wr C l e (N.ofN (N.bitT R D κ % Y)) ∧ Own wr w1.heap.size w1.heap.size n n (L.set j (N.bitT R D κ / Y * 2 ^ κ))) (fun _ v10 _ => (intOf v10 + 1).toNat)
      case atStart =>
        refine ⟨C, k, e, 32, Nat.le_refl _, rfl, .inr ⟨31, rfl, rfl⟩, hbw, ?_, ?_⟩
        · rw [N.bitT_top _ _ hdl, Nat.mod_eq_of_lt hR]; exact hsl
        · rw [N.bitT_top _ _ hdl, Nat.div_eq_of_lt hR, Nat.zero_mul, HSET.out]; exact hown
      case round =>
        obtain ⟨C, l, e, κ, hκ, rfl, hcase, hbw, hsl, hown⟩ := hrel
        rcases hcase with ⟨rfl, rfl⟩ | ⟨t, rfl, rfl⟩
        · go_wp2_with fail
          go_roundw
          case rel =>
            rw [N.bitT_zero] at hsl hown
            rw [Nat.pow_zero, Nat.mul_one, HSTEP.out] at hown
            rw [HMOD.out] at hsl
            refine ⟨C, l, e, rfl, hbw, ?_⟩
            by_cases hj0 : j = 0
            · subst hj0
              refine .inl ⟨rfl, ?_, ?_⟩
              · rw [List.drop_zero] at hsl; exact hsl
              · rw [N.divS_all] at hown; exact hown
            · refine .inr ⟨j - 1, by omega, by go_num, ?_, ?_⟩
              · rw [show j - 1 + 1 = j by omega]; exact hsl
              · rw [show j - 1 + 1 = j by omega]; exact hown
          case measure => simp [intOf]
        · have hTl := Nat.mod_lt (N.bitT R D (t + 1)) hY0
          have hbit := Nat.mod_lt (D / 2 ^ t) (show 0 < 2 by omega)
          obtain ⟨hge, hlt⟩ := N.bit_div hY0 (N.bitT_step R D t (by omega)) hbit
          have hqb := N.bitQ_lt (k := t) (by omega) hR hdl
          have hqb1 := N.bitQ_lt (k := t + 1) hκ hR hdl
          have hdn : (D : Int) / 2 ^ t = ((D / 2 ^ t : Nat) : Int) := by rw [Int.natCast_ediv, Int.natCast_pow]; rfl
          have hll : l ≤ m := by
            have h1 := hsl.len
            have h2 := N.ofN_length_mono (Nat.le_of_lt hTl)
            have h3 := HLY.out
            omega
          obtain ⟨bx, ox, rfl, hcx⟩ := (ha1.below hbw).cells (by omega)
          have hcj := hcx j hj
          rw [HDE.out] at hcj
          clear hcx
          obtain ⟨E, hEe⟩ : ∃ E, E = D / 2 ^ t := ⟨_, rfl⟩
          rw [← hEe] at hdn hbit hge hlt
          have hEl : E < 4294967296 := by rw [hEe]; exact Nat.lt_of_le_of_lt (Nat.div_le_self _ _) hdl
          have hpow : (2 : Nat) ^ (t + 1) = 2 * 2 ^ t := Nat.pow_succ'
          have HPOW := Lib.hid hpow
          have HGE := Lib.hid hge
          have HLT := Lib.hid hlt
          have HQB := Lib.hid hqb
          have HQB1 := Lib.hid hqb1
          have hyl' := hyl.below hbw
          have hz' := hbw.size
          clear hEe hge hlt hqb hqb1 hpow
          have hnvT := N.nv_ofN (N.bitT R D (t + 1) % Y)
          have HNT := Lib.hid hnvT
          clear hnvT
          go_wp2_with fail
          refine (rtimes_any _ C l e _ 2 (E % 2) _ _ rfl (by omega) hsl (by omega) (by omega) (by omega)).mono ?_
          rintro e3 w3 ⟨g3, n3, c3, rfl, ho3, hb3⟩
          rw [HNT.out] at ho3
          have hn3 : n3 ≤ m + 1 := by
            have h1 := ho3.len
            have h2 := N.ofN_length_le (n := N.bitT R D (t + 1) % Y * 2 + E % 2) (k := m + 1) (by
              have h3 := N.lt_pow_ofN Y
              rw [HLY.out] at h3
              have h4 : 4294967296 ^ ny ≤ 4294967296 ^ m := Nat.pow_le_pow_right (by omega) hylen
              rw [Nat.pow_succ]; omega)
            omega
          have hs3 := ho3.sl
          have hy3 := hyl'.below hb3
          have hown3 := hown.below hb3
          have hbw3 := hbw.trans (hb3.mono hz')
          clear hown hyl' hsl
          go_wp2_with fail
          refine (rcmp_any _ _ _ _ _ _ _ _ _ hs3 hy3 (by omega) (by omega)).mono ?_
          rintro e4 w4 ⟨rfl, rfl⟩
          rw [N.nv_ofN, N.nv_ofN]
          by_cases hcmp : Y ≤ 2 * (N.bitT R D (t + 1) % Y) + E % 2
          · obtain ⟨t1, t2⟩ := geq_cmp (x := N.bitT R D (t + 1) % Y * 2 + E % 2) (y := Y) (by omega)
            obtain ⟨hd1, hd2⟩ := HGE.out hcmp
            have hcmp' : N.nv (N.ofN Y) ≤ N.nv (N.ofN (N.bitT R D (t + 1) % Y * 2 + E % 2)) := by rw [N.nv_ofN, N.nv_ofN]; omega
            go_wp2_with fail
            refine (rsub_any _ _ _ _ _ _ _ _ _ hs3 hy3 (by omega) (by omega) hcmp').mono ?_
            rintro e5 w5 ⟨g5, n5, c5, rfl, ho5, hb5⟩
            rw [N.nv_ofN, N.nv_ofN, Nat.mul_comm, ← hd2] at ho5
            have hown5 := hown3.below hb5
            have hbw5 := hbw3.trans (hb5.mono hbw3.size)
            have hq5 := hown5.cell j hj
            have hf5 := hown5.free j
            rw [N.dg_set _ _ _ _ (by rw [HLL.out]; exact hj), if_pos rfl] at hq5
            have hsum : N.bitT R D (t + 1) / Y * 2 ^ (t + 1) + 2 ^ t = N.bitT R D t / Y * 2 ^ t := by
              rw [hd1, HPOW.out, Nat.add_mul, Nat.one_mul, Nat.mul_assoc 2, Nat.mul_left_comm]
            have hvl := HQB.out
            rw [← hsum] at hvl
            have HSUM := Lib.hid hsum
            clear hsum hd1
            obtain ⟨u, hu⟩ : ∃ u, N.bitT R D (t + 1) / Y * 2 ^ (t + 1) = u := ⟨_, rfl⟩
            rw [hu] at hq5 hown5 hvl
            have HU := Lib.hid hu
            clear hu
            have hpi : (2 : Int) ^ t = ((2 ^ t : Nat) : Int) := by rw [Int.natCast_pow]; rfl
            obtain ⟨P, hP⟩ : ∃ P, 2 ^ t = P := ⟨_, rfl⟩
            rw [hP] at hpi hvl
            have HP := Lib.hid hP
            clear hP
            go_wp2_with fail
            go_region
            go_wp2_with fail
            go_roundw
            case rel =>
              refine ⟨_, _, _, t, by omega, rfl, ?_, ?_, ?_, ?_⟩
              · by_cases ht0 : t = 0
                · subst ht0; exact .inl ⟨rfl, rfl⟩
                · exact .inr ⟨t - 1, by omega, by go_num⟩
              · exact (hbw5.setCell (Nat.le_refl _) _).drew
              · exact (ho5.far (by have := ho5.base_le; have := hown3.base_le; omega) _ _).sl.drew
              · have hnew := hown5.set' j (u + P) hvl ((u : Int) + (P : Int)) (by omega)
                rw [List.set_set] at hnew
                have e : u + P = N.bitT R D t / Y * 2 ^ t := by rw [← HSUM.out, HU.out, HP.out]
                rw [← e]
                exact hnew.drew
            case measure => simp [intOf]
          · obtain ⟨t1, t2⟩ := lss_cmp (x := N.bitT R D (t + 1) % Y * 2 + E % 2) (y := Y) (by omega)
            obtain ⟨hd1, hd2⟩ := HLT.out (by omega)
            go_wp2_with fail
            go_roundw
            case rel =>
              refine ⟨_, _, _, t, by omega, rfl, ?_, hbw3, ?_, ?_⟩
              · by_cases ht0 : t = 0
                · subst ht0; exact .inl ⟨rfl, rfl⟩
                · exact .inr ⟨t - 1, by omega, by go_num⟩
              · rw [hd2, Nat.mul_comm 2]; exact hs3
              · rw [hd1, Nat.mul_comm 2, Nat.mul_assoc, ← HPOW.out]; exact hown3
            case measure => simp [intOf]
end Go.Proofs.YtiidghfkdjefgaaDoor

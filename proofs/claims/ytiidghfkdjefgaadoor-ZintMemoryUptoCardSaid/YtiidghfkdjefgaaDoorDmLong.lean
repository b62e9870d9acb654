/-
  nat.DivMod: long division.
-/
import Derived.Test.YtiidghfkdjefgaaDoorDigit
import Derived.Test.YtiidghfkdjefgaaDoorDivMath
import Derived.Test.YtiidghfkdjefgaaDoorDmEasy
import Derived.Test.YtiidghfkdjefgaaDoorShelf
import Derived.Lib.ItoaNum
import Derived.Deep.RegionWith
namespace Go.Proofs.YtiidghfkdjefgaaDoor
open Go.RowKit

theorem lz_facts (x : Nat) (h0 : 0 < x) (h1 : x < 4294967296) : ∃ s : Nat, (32 : Int) - (Lib.bitLen x : Int) = (s : Int) ∧ s < 32 ∧ 2147483648 ≤ x * 2 ^ s ∧ (x + 1) * 2 ^ s ≤ 4294967296 := by
  obtain ⟨h2, h3, h4⟩ := Lib.bitLenAux_bounds 64 x (by omega) (by omega)
  have h5 : Lib.bitLen x ≤ 32 := Lib.bitLen_le x 32 (by omega) (by simpa using h1)
  change 1 ≤ Lib.bitLen x at h2
  change 2 ^ (Lib.bitLen x - 1) ≤ x at h3
  change x < 2 ^ Lib.bitLen x at h4
  generalize Lib.bitLen x = k at *
  refine ⟨32 - k, by omega, by omega, ?_, ?_⟩
  · have h6 := Nat.mul_le_mul_right (2 ^ (32 - k)) h3
    rw [← Nat.pow_add, show k - 1 + (32 - k) = 31 from by omega] at h6
    simpa using h6
  · have h6 := Nat.mul_le_mul_right (2 ^ (32 - k)) (show x + 1 ≤ 2 ^ k from h4)
    rw [← Nat.pow_add, show k + (32 - k) = 32 from by omega] at h6
    simpa using h6

theorem digit_at (w : World) (base g K : Nat) (u v : List Nat) (V : Option Addr) (n d c i : Nat) (hown : Own w base g K K u) (hiK : i + n + 1 ≤ K) (hv : Sl w V n d v) (hoff : Off V g)
    (hn2 : 2 ≤ n) (hN : K ≤ 70368744177664) (htop : 2147483648 ≤ N.dg v (n - 1)) (hUV : N.nv (u.drop (i + 1)) < N.nv v) :
    Calls Tryd.prog 84 #[.slice (some ⟨g, i, none⟩) (n + 1) c, .slice V n d] w fun e w' => ∃ u' q, e = .returned (.int .u32 (q : Nat)) ∧ q < 4294967296 ∧ Own w' base g K K u' ∧ w.grownBy w' (some g) ∧
      N.nv (u'.drop i) < N.nv v ∧ N.nv u' + N.nv v * (4294967296 ^ i * q) = N.nv u := by
  have hul := hown.len
  obtain ⟨h1, h2, h3, h4, h5, h6⟩ := N.dm_win (m := n) hown.lim hv.lim (by omega) hv.len hUV
  have h7 := digit_any w base g K (u.take i) ((u.drop i).take (n + 1)) (u.drop (i + n + 1)) v V n d c (by rw [h4]; exact hown) h3 hv hoff hn2 (by omega) hN htop h2
  rw [h6] at h7
  refine h7.mono ?_
  rintro e w' ⟨w2, rfl, ho, hl, hw, hg⟩
  obtain ⟨h8, h9, _⟩ := N.dm_step hown.lim hv.lim (by omega) hv.len hUV hl hw
  have hv0 : 0 < N.nv v := by omega
  exact ⟨_, _, rfl, (Nat.div_lt_iff_lt_mul hv0).2 (by rw [Nat.mul_comm]; exact h2), ho, hg, h9, h8⟩

set_option maxRecDepth 100000 in
set_option maxHeartbeats 2000000 in
theorem dm_long (w : World) (A : Option Addr) (n c : Nat) (a : List Nat) (B : Option Addr) (m d : Nat) (b : List Nat) (ha : Sl w A n c a) (hb : Sl w B m d b) (hn : n ≤ 17592186044416) (hm : m ≤ 17592186044416) (h1 : 2 ≤ (N.ofN (N.nv b)).length) (hle : N.nv b ≤ N.nv a) :
    Calls Tryd.prog 52 #[.slice A n c, .slice B m d] w fun e w' => ∃ g1 n1 c1 g2 n2 c2, e = .returned (.tuple #[.slice (some ⟨g1, 0, none⟩) n1 c1, .slice (some ⟨g2, 0, none⟩) n2 c2, .int .i64 0]) ∧
      Own w' w.heap.size g1 n1 c1 (N.ofN (N.nv a / N.nv b)) ∧ Own w' w.heap.size g2 n2 c2 (N.ofN (N.nv a % N.nv b)) ∧ g1 < g2 ∧ Below w.heap.size w w' := by
  obtain ⟨i0, hi, iz0, iz1, iz2⟩ := info_parts info_u32
  have hA := ha.bare
  have hB := hb.bare
  have hla := N.nv_len_le ha.lim
  rw [ha.len] at hla
  have hlb := N.nv_len_le hb.lim
  rw [hb.len] at hlb
  have hlab := N.ofN_length_mono hle
  have hva := N.nv_ofN (N.nv a)
  have hvb := N.nv_ofN (N.nv b)
  have hbb := N.bare_ofN (N.nv b)
  go_enter Tryd.func52, Tryd.ntmps52
  have HVA := Lib.hid hva
  have HVB := Lib.hid hvb
  clear hva hvb
  go_wp2_with fail
  refine (bare_any _ A n c a ha (by omega)).mono ?_
  rintro e w' ⟨rfl, rfl⟩
  go_wp2_with fail
  refine (bare_any _ B m d b hb (by omega)).mono ?_
  rintro e w' ⟨rfl, rfl⟩
  clear ha hb
  generalize N.ofN (N.nv a) = a' at *
  generalize N.ofN (N.nv b) = b' at *
  have hle' : N.nv b' ≤ N.nv a' := by rw [HVA.out, HVB.out]; exact hle
  have hcm : decide (N.cmpN (N.nv a') (N.nv b') < 0) = false := by
    rcases N.cmpN_cases (N.nv a') (N.nv b') with ⟨h, e⟩ | ⟨h, e⟩ | ⟨h, e⟩
    · omega
    · rw [e]; rfl
    · rw [e]; rfl
  have t1 : ((b'.length : Int) == 0) = false := by simp; intro h; rw [h] at h1; simp at h1
  have t2 : ((b'.length : Int) == 1) = false := by simp; omega
  have hx0 : 0 < N.dg b' (b'.length - 1) := by
    rcases hbb with h | h
    · rw [h] at h1; simp at h1
    · omega
  have hx1 := N.dg_lt hB.lim (b'.length - 1)
  obtain ⟨s, hs0, hs, hs1, hs2⟩ := lz_facts _ hx0 hx1
  obtain ⟨hvl, hvt, hvn⟩ := N.dm_norm (m := b'.length) (s := s) hB.lim rfl (by omega) hs1 hs2
  generalize hp : a'.length = p at *
  generalize hq : b'.length = q at *
  have HP := Lib.hid hp
  have HQ := Lib.hid hq
  have HS := Lib.hid hs0
  have HVL := Lib.hid hvl
  clear hp hq hs0 hvl
  go_wp2_with fail
  refine (cmp_any _ A _ _ a' B _ _ b' hA hB (by omega) (by omega)).mono ?_
  rintro e w1 ⟨rfl, hb1⟩
  have hz1 := hb1.size
  have hA1 := hA.below hb1
  have hB1 := hB.below hb1
  obtain ⟨bb, ob, rfl, hcb⟩ := hB1.cells (by omega)
  have hcx := hcb (q - 1) (by omega)
  clear hcb
  go_wp2_with fail
  refine (Go.Proofs.Tryd.bits_LeadingZeros32 (N.dg b' (q - 1) : Nat) _ (by omega) (by omega)).mono ?_
  rintro e w1' ⟨rfl, rfl⟩
  rw [Int.toNat_natCast, HS.out]
  go_wp2_with fail
  refine (left_any _ A _ _ a' s hA1 (by omega) hs).mono ?_
  rintro e w2 ⟨gu, lu, rfl, hou, hnu, hb2⟩
  have hz2' := hb2.size
  have hB2 := hB1.below hb2
  go_wp2_with fail
  refine (left_any _ _ _ _ b' s hB2 (by omega) hs).mono ?_
  rintro e w3 ⟨gv, lw, rfl, how, hnw, hb3⟩
  have hz3 := hb3.size
  have HNU := Lib.hid hnu
  have HNW := Lib.hid hnw
  clear hnu hnw
  go_wp2_with fail
  refine (bare_any _ _ _ _ lw how.sl (by omega)).mono ?_
  rintro e w3' ⟨rfl, rfl⟩
  rw [HNW.out, HVL.out]
  have hou3 := hou.below hb3
  have hlu := hou.len
  have HLU := Lib.hid hlu
  have hguv : gu ≠ gv := by have := hou.base_le; have := how.base_le; omega
  clear hlu
  obtain ⟨K, hK1, hK2⟩ : ∃ K, K + q ≤ p + 1 ∧ p + 1 ≤ K + q := ⟨p + 1 - q, by omega, by omega⟩
  have hinit := N.dm_init (m := q) (v := N.ofN (N.nv b' * 2 ^ s)) hA.lim HP.out HNU.out HLU.out hs (by omega) (by omega) (by rw [N.nv_ofN]; exact hvn)
  rw [show p + 1 - q = K from by omega] at hinit
  have hvlim := N.lim_ofN (N.nv b' * 2 ^ s)
  have HVN := Lib.hid (N.nv_ofN (N.nv b' * 2 ^ s))
  have hVl := HVL.out
  generalize N.ofN (N.nv b' * 2 ^ s) = v at *
  have HVl := Lib.hid hVl
  clear hVl
  have hbw3 : Below w.heap.size w w3 := (hb1.trans (hb2.mono hz1)).trans (hb3.mono (by omega))
  go_wp2_with (at_make; refine wpList_make_lim _ rfl (.tmp 66) (.tmp 66) 22 rfl i0 Tryd.underlying22 hi iz0 iz1 iz2 .i64 .i64 _ _ K rfl rfl (by omega) (by omega) (by omega) ?_; intro w4 ho4 hb4)
  have hbw4 : Below w.heap.size w w4 := hbw3.trans (hb4.mono (by omega))
  have hou4 := (hou3.mono hz1).below hb4
  have how4 := (how.mono (show w.heap.size ≤ w2.heap.size by omega)).below hb4
  have hoq4 := ho4.mono (show w.heap.size ≤ w3.heap.size by omega)
  have hg1 : gu ≠ w3.heap.size := by have := hou3.base_le; omega
  have hg2 : gv ≠ w3.heap.size := by have := how.base_le; omega
  have hg3 : gu < w3.heap.size := by have := hou3.base_le; omega
  generalize w3.heap.size = gq at *
  clear ho4 hou hou3 how hb1 hb2 hb3 hb4 hbw3 hz1 hz2' hz3 hB2 hA1 hB1 hcx
  clear hcm t1 t2
  go_loopw [13] (fun v13 wr => ∃ (r : Nat) (u qq : List Nat), r ≤ K ∧ ((r = 0 ∧ v13 = .int .i64 (-1)) ∨ ∃ j, r = j + 1 ∧ v13 = .int .i64 (j : Nat)) ∧ Own wr w.heap.size gu (p + 1) (p + 1) u ∧ Own wr w.heap.size gv (q + 1) (q + 1) lw ∧ Own wr w.heap.size gq K K qq ∧
      Below w.heap.size w wr ∧ N.nv (u.drop r) < N.nv v ∧ N.nv u + N.nv v * N.nv qq = N.nv lu ∧ ∀ k, k < r → N.dg qq k = 0) (fun v13 _ => (intOf v13 + 1).toNat)
  case atStart => exact ⟨K, lu, List.replicate K 0, Nat.le_refl _, .inr ⟨K - 1, by omega, by go_num⟩, by assumption, by assumption, by assumption, by assumption, hinit, by rw [N.nv_rep]; simp, fun k _ => N.dg_rep _ _⟩
  case round =>
    clear hou4 how4 hoq4 hbw4 hinit
    obtain ⟨r, u, qq, hrK, hcase, hou, how, hoq, hbw, hI2, hI4, hI5⟩ := hrel
    have HI2 := Lib.hid hI2
    have HI4 := Lib.hid hI4
    have HI5 := Lib.hid hI5
    clear hI2 hI4 hI5
    rcases hcase with ⟨rfl, rfl⟩ | ⟨j, rfl, rfl⟩
    · -- the quotient is whole; the rest is shifted down
      have hvq : N.nv u < N.nv v := HI2.out
      go_wp2_with fail
      go_loopw [90] (fun v90 wr => ∃ k : Nat, k ≤ q ∧ v90 = .int .i64 (k : Nat) ∧ Own wr w.heap.size gu (p + 1) (p + 1) (N.rsS u s q k) ∧ Own wr w.heap.size gq K K qq ∧ Below w.heap.size w wr) (fun v90 _ => q - (intOf v90).toNat)
      case atStart => exact ⟨0, Nat.zero_le _, rfl, hou, hoq, hbw⟩
      case round =>
        have HHO := Lib.hid hou
        have HHQ := Lib.hid hoq
        have HHW := Lib.hid how
        have HHB := Lib.hid hbw
        clear hou hoq how hbw
        obtain ⟨k, hkq, rfl, hou, hoq, hbw⟩ := hrel
        have hulim := HHO.out.lim
        have hulen := HHO.out.len
        have HUlen := Lib.hid hulen
        clear hulen
        have hgl := hou.base_le.1
        by_cases hkm : k < q
        · have cu := hou.cell k (by omega)
          rw [N.rsS_dg_ge _ _ _ _ _ (Nat.le_refl _)] at cu
          have fu := hou.free k
          have cu1 := hou.cell (k + 1) (by omega)
          rw [N.rsS_dg_ge _ _ _ _ _ (Nat.le_succ _)] at cu1
          have lu0 := N.dg_lt hulim k
          have lu1 := N.dg_lt hulim (k + 1)
          obtain ⟨hor, hlt⟩ := N.rsv_or (y := N.dg u (k + 1)) hs lu0
          have HOR := Lib.hid hor
          have HLT := Lib.hid hlt
          clear hor hlt
          have hrs : N.rsS u s q (k + 1) = (N.rsS u s q k).set k (N.rsv u s q k) := rfl
          have hrv : N.rsv u s q k = N.dg u k / 2 ^ s + (if k + 1 < q then N.dg u (k + 1) * 2 ^ (32 - s) % 4294967296 else 0) := rfl
          have HRS := Lib.hid hrs
          have HRV := Lib.hid hrv
          clear hrs hrv
          generalize N.dg u k = x at *
          generalize N.dg u (k + 1) = y at *
          have hxs : (x : Int) / 2 ^ s = ((x / 2 ^ s : Nat) : Int) := by rw [Int.natCast_ediv, Int.natCast_pow]; rfl
          have lxs : x / 2 ^ s < 4294967296 := Nat.lt_of_le_of_lt (Nat.div_le_self _ _) lu0
          obtain ⟨xs, hxe⟩ : ∃ xs, xs = x / 2 ^ s := ⟨_, rfl⟩
          rw [← hxe] at hxs lxs
          have HXE := Lib.hid hxe
          clear hxe
          by_cases hs0 : 0 < s
          · have tg : decide (0 < s) = true := by simpa using hs0
            by_cases hk1 : k + 1 < q
            · have tk : decide ((k : Int) + 1 < (q : Int)) = true := by simp; omega
              have hqs : (32 : Int) - (s : Int) = ((32 - s : Nat) : Int) := by omega
              have hys : IntKind.u32.wrap ((y : Int) * 2 ^ (32 - s)) = ((y * 2 ^ (32 - s) % 4294967296 : Nat) : Int) := by
                rw [IntKind.wrap_u32', Int.natCast_emod, Int.natCast_mul, Int.natCast_pow]; rfl
              obtain ⟨ys, hye⟩ : ∃ ys, ys = y * 2 ^ (32 - s) % 4294967296 := ⟨_, rfl⟩
              rw [← hye] at hys
              have lys : ys < 4294967296 := by rw [hye]; exact Nat.mod_lt _ (by omega)
              have hor := u32_or_nat xs ys lxs lys
              have HYE := Lib.hid hye
              clear hye
              go_wp2_with fail
              go_region
              go_wp2_with fail
              go_roundw
              case rel =>
                have h1 := hou.set k xs lxs
                have h2 := h1.set k (xs ||| ys) (by rw [HXE.out, HYE.out, HOR.out]; exact HLT.out)
                rw [List.set_set] at h2
                have e1 : xs ||| ys = N.rsv u s q k := by rw [HRV.out, if_pos hk1, HXE.out, HYE.out, HOR.out]
                have e2 : (N.rsS u s q k).set k (xs ||| ys) = N.rsS u s q (k + 1) := by rw [e1, ← HRS.out]
                rw [e2] at h2
                exact ⟨k + 1, by omega, by go_num, h2.drew, ((hoq.far (fun e => hg1 e.symm) _ _).far (fun e => hg1 e.symm) _ _).drew, ((hbw.setCell hgl _).setCell hgl _).drew⟩
              case measure => simp [intOf]; omega
            · have tk : decide ((k : Int) + 1 < (q : Int)) = false := by simp; omega
              go_wp2_with fail
              go_roundw
              case rel =>
                refine ⟨k + 1, by omega, by go_num, ?_, hoq.far (fun e => hg1 e.symm) _ _, hbw.setCell hgl _⟩
                rw [HRS.out, HRV.out, if_neg hk1, ← HXE.out, Nat.add_zero]
                exact hou.set k xs lxs
              case measure => simp [intOf]; omega
          · obtain rfl : s = 0 := by omega
            go_wp2_with fail
            go_roundw
            case rel =>
              refine ⟨k + 1, by omega, by go_num, ?_, hoq.far (fun e => hg1 e.symm) _ _, hbw.setCell hgl _⟩
              have e1 : N.rsv u 0 q k = x := by
                rw [HRV.out, Nat.pow_zero, Nat.div_one, show y * 2 ^ (32 - 0) % 4294967296 = 0 from Nat.mul_mod_left _ _]
                split <;> rfl
              rw [HRS.out, e1]
              exact hou.set k x lu0
            case measure => simp [intOf]; omega
        · obtain rfl : k = q := by omega
          go_wp2_with fail
          have hst := hou.sl.take (show k ≤ p + 1 by omega)
          go_region_with (first
            | (go_at_call_of 81 gq; refine (own_any _ _ _ _ qq hoq.drew.sl (by omega)).mono ?_; rintro e w5 ⟨g5, n5, c5, rfl, ho5, hb5⟩; have hst5 := hst.drew.below hb5)
            | (go_at_call_of 81 gu; refine (own_any _ _ _ _ _ hst5 (by omega)).mono ?_; rintro e w6 ⟨g6, n6, c6, rfl, ho6, hb6⟩))
          all_goals
            go_wp2_with fail
            go_ret3
            have hz5 := hb5.size
            have hzw := hbw.size
            have hz5' : wr.heap.size ≤ w5.heap.size := hz5
            have hvv : N.nv v = N.nv b' * 2 ^ s := HVN.out
            have hfin := N.dm_final (a := N.nv a') (b := N.nv b') (r := N.nv u) (q := N.nv qq) (s := s) (by rw [← hvv]; exact hvq) (by rw [← hvv, ← HNU.out]; exact HI4.out)
            have hval : N.nv ((N.rsS u s k k).take k) = N.nv a' % N.nv b' := by
              rw [N.rsS_all s k hs (by have := HUlen.out; omega), (N.nv_take_small (l := u) (n := k) ?_).1]
              · exact hfin.2
              · have h8 := N.nv_lt hvlim
                rw [HVl.out] at h8
                exact Nat.lt_trans hvq h8
            rw [hval] at ho6
            rw [hfin.1] at ho5
            rw [← HVA.out, ← HVB.out]
            exact ⟨g5, n5, c5, g6, n6, c6, rfl, (ho5.below hb6).mono hzw, ho6.mono (by omega), by have := ho5.base_le; have := ho6.base_le; omega, (hbw.drew.trans (hb5.mono hzw)).trans (hb6.mono (by omega))⟩
    · have hsv := how.sl.bare
      rw [HNW.out] at hsv
      have hsv2 : Sl wr (some ⟨gv, 0, none⟩) q q v := by
        have e : N.ofN (N.nv b' * 2 ^ s) = v := by rw [← HVN.out]; exact N.ofN_nv hvlim (.inr (by rw [HVl.out]; omega))
        rw [e, HVl.out] at hsv
        exact hsv
      clear hsv
      have hcq := hoq.cell j (by omega)
      have hfq := hoq.free j
      go_wp2_with fail
      rw [show j + q + 1 - j = q + 1 from by omega]
      refine (digit_at _ _ gu (p + 1) u v _ q q _ j hou (by omega) hsv2 (fun ad e => by injection e with e; subst e; exact hguv.symm) (by omega) (by omega) hvt HI2.out).mono ?_
      rintro e w5 ⟨u', x, rfl, hx, hou', hg', hn1, hn2⟩
      have hoq' := hoq.grown hg' (fun e => hg1 e.symm)
      have how' := how.grown hg' (fun e => hguv e.symm)
      have hcq' := hoq'.cell j (by omega)
      have hfq' := hoq'.free j
      have hgl := hou.base_le.1
      have hql := hoq.base_le.1
      have hbw' := hbw.grown hg' hbw.size (by intro k hk; injection hk with hk; omega)
      have HN2 := Lib.hid hn2
      clear hn2
      go_wp2_with fail
      go_roundw
      case rel =>
        refine ⟨j, u', qq.set j x, by omega, ?_, hou'.far hg1 _ _, how'.far hg2 _ _, hoq'.set j x hx, hbw'.setCell hql _, hn1, ?_, ?_⟩
        · by_cases h0 : j = 0
          · subst h0; exact .inl ⟨rfl, rfl⟩
          · exact .inr ⟨j - 1, by omega, by go_num⟩
        · rw [N.nv_set_zero qq j x (by rw [hoq'.len]; omega) (HI5.out j (by omega)), Nat.mul_add]
          have h1 := HN2.out
          have h2 := HI4.out
          omega
        · intro k hk
          rw [N.dg_set _ _ _ _ (by rw [hoq'.len]; omega), if_neg (by omega)]
          exact HI5.out k (by omega)
      case measure => simp [intOf]
end Go.Proofs.YtiidghfkdjefgaaDoor

/-
  nat.digit: contract.
-/
import Derived.Test.YtiidghfkdjefgaaDoorShort
import Derived.Test.YtiidghfkdjefgaaDoorKnuth
namespace Go.Proofs.YtiidghfkdjefgaaDoor
open Go.RowKit

section
variable {w : World} {base g K k : Nat} {pre u post : List Nat}
theorem win_cell (h : Own w base g K K (pre ++ u ++ post)) (hk : k < u.length) : w.cell? ⟨g, pre.length + k, none⟩ = some (.int .u32 (N.dg u k)) := by
  have hl := h.len
  simp only [List.length_append] at hl
  rw [h.cell _ (by omega), List.append_assoc, N.dg_append_right _ _ _ (by omega), N.dg_append_left _ _ _ (by omega), Nat.add_sub_cancel_left]
theorem win_set (h : Own w base g K K (pre ++ u ++ post)) (hk : k < u.length) (x : Nat) (hx : x < 4294967296) (v : Int) (hv : v = (x : Nat)) :
    Own (w.setCell ⟨g, pre.length + k, none⟩ (.int .u32 v)) base g K K (pre ++ u.set k x ++ post) := by
  have h1 := h.set' (pre.length + k) x hx v hv
  rw [List.append_assoc, List.set_append_right _ _ (by omega), Nat.add_sub_cancel_left, List.set_append_left _ _ hk, ← List.append_assoc] at h1
  exact h1
theorem own_drewN {l : List Nat} {n c : Nat} (h : Own w base g n c l) (k : Nat) : Own (w.drewN k) base g n c l := h.drewN k
theorem or_join' (r x : Nat) (hr : r < 4294967296) (hx : x < 4294967296) : bits .or .u64 ((r : Int) * 4294967296) (x : Int) = ((r * 4294967296 + x : Nat) : Int) := or_join r x hr hx
theorem win_lim (h : Own w base g K K (pre ++ u ++ post)) : N.Lim u := fun x hx => h.lim x (by simp [hx])
end

set_option maxRecDepth 100000 in
set_option maxHeartbeats 2000000 in
theorem digit_any (w : World) (base g K : Nat) (pre u post v : List Nat) (V : Option Addr) (n d c : Nat) (hown : Own w base g K K (pre ++ u ++ post)) (hul : u.length = n + 1) (hv : Sl w V n d v) (hoff : Off V g)
    (hn2 : 2 ≤ n) (hn : n ≤ 70368744177664) (_hN : K ≤ 70368744177664) (htop : 2147483648 ≤ N.dg v (n - 1)) (hUV : N.nv u < N.nv v * 4294967296) :
    Calls Tryd.prog 84 #[.slice (some ⟨g, pre.length, none⟩) (n + 1) c, .slice V n d] w fun e w' => ∃ u', e = .returned (.int .u32 (N.nv u / N.nv v : Nat)) ∧ Own w' base g K K (pre ++ u' ++ post) ∧ u'.length = n + 1 ∧ N.nv u' = N.nv u % N.nv v ∧ w.grownBy w' (some g) := by
  have hvl := hv.len
  have hlv := hv.lim
  have hlu := win_lim hown
  obtain ⟨hutvt, hK1, hK2, hK3⟩ := N.knuth_facts hlu hlv hn2 hul hvl (by omega) hUV
  have hv0 : 0 < N.nv v := by rcases Nat.eq_zero_or_pos (N.nv v) with h | h <;> omega
  have hQ3 := hK3 (N.nv u / N.nv v) (Nat.div_mul_le_self _ _)
  have hQB : N.nv u / N.nv v < 4294967296 := (Nat.div_lt_iff_lt_mul hv0).2 (by rw [Nat.mul_comm]; exact hUV)
  have cun := win_cell (k := n) hown (by omega)
  have cu1 := win_cell (k := n - 1) hown (by omega)
  have cu2 := win_cell (k := n - 2) hown (by omega)
  obtain ⟨bv, ov, rfl, hcv⟩ := hv.cells (by omega)
  have cv1 := hcv (n - 1) (by omega)
  have cv2 := hcv (n - 2) (by omega)
  have HCV := Lib.hid hcv
  have HUL := Lib.hid hul
  have HVL := Lib.hid hvl
  have lun := N.dg_lt hlu n
  have lu1 := N.dg_lt hlu (n - 1)
  have lu2 := N.dg_lt hlu (n - 2)
  have lv1 := N.dg_lt hlv (n - 1)
  have lv2 := N.dg_lt hlv (n - 2)
  clear hcv hul hvl
  generalize N.dg u n = ut at *
  generalize N.dg u (n - 1) = u1 at *
  generalize N.dg u (n - 2) = u2 at *
  generalize N.dg v (n - 1) = vt at *
  generalize N.dg v (n - 2) = v2 at *
  have htl : ut * 4294967296 + u1 < 18446744073709551616 := by omega
  have hor := or_join ut u1 lun lu1
  have hT : ut * 4294967296 + u1 < (vt + 1) * 4294967296 := by omega
  have HK1 := Lib.hid hK1
  have HK2 := Lib.hid hK2
  clear hK1 hK2 hK3
  generalize hTop : ut * 4294967296 + u1 = top at *
  have HT := Lib.hid hTop
  clear hTop
  obtain ⟨t, ht⟩ : ∃ t, t = top / vt := ⟨_, rfl⟩
  have htq : (top : Int) / (vt : Int) = (t : Int) := by rw [ht]; exact (Int.natCast_ediv _ _).symm
  have hdm := Nat.div_add_mod top vt
  have hml := Nat.mod_lt top (show 0 < vt by omega)
  rw [← ht] at hdm
  have hQt : N.nv u / N.nv v ≤ t := by rw [ht]; exact (Nat.le_div_iff_mul_le (by omega)).2 hQ3
  have htB : t ≤ 8589934592 := by
    rw [ht]; exact Nat.div_le_of_le_mul (by omega)
  have hvt1 : 1 ≤ (vt : Int) := by omega
  obtain ⟨q0, r0, hq0, hr0, hq0B, hQq0, hr0B⟩ : ∃ q0 r0 : Nat, ((t < 4294967295 ∧ q0 = t) ∨ (t = 4294967295 ∧ q0 = 4294967295) ∨ (4294967295 < t ∧ q0 = 4294967295)) ∧ r0 + q0 * vt = top ∧ q0 < 4294967296 ∧ N.nv u / N.nv v ≤ q0 ∧ r0 < 8589934592 := by
    by_cases hm : t < 4294967295
    · exact ⟨t, top % vt, .inl ⟨hm, rfl⟩, by rw [Nat.mul_comm]; omega, by omega, hQt, by omega⟩
    · have h1 : 4294967295 * vt ≤ vt * t := by rw [Nat.mul_comm]; exact Nat.mul_le_mul_left _ (by omega)
      refine ⟨4294967295, top - 4294967295 * vt, .inr (by omega), by omega, by omega, by omega, ?_⟩
      have h2 : ut * 4294967296 ≤ vt * 4294967296 := Nat.mul_le_mul_right _ hutvt
      have := HT.out
      omega
  have HT2 := Lib.hid ht
  clear ht hdm hml hQt
  have hbg : bv ≠ g := hoff _ rfl
  have HR0 := Lib.hid hr0
  have hr1 : (q0 : Int) * (vt : Int) = (top : Int) - (r0 : Int) := by rw [← Int.natCast_mul]; omega
  clear hr0
  have hr2 : (r0 : Int) ≤ top := by have := HR0.out; omega
  have hmin : (if (4294967295 : Int) < (t : Int) then (4294967295 : Int) else (t : Int)) = (q0 : Int) := by
    rcases hq0 with ⟨h1, h2⟩ | ⟨h1, h2⟩ | ⟨h1, h2⟩
    · rw [if_neg (by omega), h2]
    · rw [if_neg (by omega), h1, h2]
    · rw [if_pos (by omega), h2]; rfl
  clear hq0
  go_enter Tryd.func84, Tryd.ntmps84
  go_wp2_with fail
  go_quiet (fail)
  go_wp2_with fail
  clear htq hor hmin
  go_loopw [7, 8] (fun v7 v8 wr => ∃ q rest k : Nat, v7 = .int .u64 q ∧ v8 = .int .u64 rest ∧ rest + q * vt = top ∧ N.nv u / N.nv v ≤ q ∧ q < 4294967296 ∧ rest < 8589934592 ∧ wr = w.drewN k) (fun v7 _ _ => (intOf v7).toNat)
  case atStart => exact ⟨_, r0, _, rfl, by go_num, HR0.out, hQq0, hq0B, hr0B, rfl⟩
  case round =>
    clear hr1 hr2 HR0 hq0B hQq0 hr0B
    obtain ⟨q, rest, kd, rfl, rfl, hrq, hQ0, hqB, hrB, rfl⟩ := hrel
    have hk1 := HK1.out q rest hrq
    have hk2 := HK2.out q rest hrq hqB
    have hm2 := N.mul_lt hqB lv2
    have hm3 : (q : Int) * (v2 : Int) = ((q * v2 : Nat) : Int) := (Int.natCast_mul _ _).symm
    have HRQ := Lib.hid hrq
    have hro := or_join' rest u2
    clear hrq
    by_cases hcond : rest < 4294967296 ∧ rest * 4294967296 + u2 < q * v2
    · have hQ1 : N.nv u / N.nv v ≤ q - 1 := by
        have h1 := hk1 hcond.2
        have h2 : N.nv u / N.nv v < q := (Nat.div_lt_iff_lt_mul hv0).2 h1
        omega
      have hq1 : 1 ≤ q := by
        rcases Nat.eq_zero_or_pos q with h | h
        · subst h; rw [Nat.zero_mul] at hcond; omega
        · exact h
      obtain ⟨hc1, hc2⟩ := hcond
      have hro' := hro hc1 lu2
      have HK1' := Lib.hid hk1
      have HK2' := Lib.hid hk2
      clear hk1 hk2 hro
      generalize q * v2 = z at *
      obtain ⟨y, hy⟩ : ∃ y, y = rest * 4294967296 + u2 := ⟨_, rfl⟩
      rw [← hy] at hro' hc2
      have HY := Lib.hid hy
      clear hy
      have hd1 : decide ((rest : Int) < 4294967296) = true := by simp; omega
      have hd2 : decide (y < z) = true := by simpa using hc2
      go_wp2_with fail
      go_quiet (fail)
      go_wp2_with fail
      go_roundw
      case rel => exact ⟨q - 1, rest + vt, _, by go_num, by go_num, by have := HRQ.out; have e : q * vt = (q - 1) * vt + vt := by rw [← Nat.succ_mul, show (q - 1).succ = q from by omega]
                                                                       omega, hQ1, by omega, by omega, rfl⟩
      case measure => simp [intOf]; omega
    · have hQ1 : q ≤ N.nv u / N.nv v + 1 := by
        have h1 := hk2 (by omega)
        rcases Nat.lt_or_ge (N.nv u / N.nv v + 1) q with h2 | h2
        · have h3 := Nat.mul_le_mul_right (N.nv v) (show N.nv u / N.nv v + 2 ≤ q from h2)
          have h4 := Nat.div_add_mod (N.nv u) (N.nv v)
          have h5 := Nat.mod_lt (N.nv u) hv0
          rw [Nat.add_mul, Nat.mul_comm] at h3
          omega
        · exact h2
      have HK1' := Lib.hid hk1
      have HK2' := Lib.hid hk2
      clear hk1 hk2
      by_cases hrB1 : rest < 4294967296
      · have hc2 : ¬ rest * 4294967296 + u2 < q * v2 := fun h => hcond ⟨hrB1, h⟩
        have hro' := hro hrB1 lu2
        clear hro hcond
        generalize q * v2 = z at *
        obtain ⟨y, hy⟩ : ∃ y, y = rest * 4294967296 + u2 := ⟨_, rfl⟩
        rw [← hy] at hro' hc2
        have HY := Lib.hid hy
        clear hy
        have hd1 : decide ((rest : Int) < 4294967296) = true := by simp; omega
        have hd2 : decide (y < z) = false := by simpa using hc2
        go_wp2_with fail
        go_quiet (fail)
        clear hro' hm3 hd1 hd2
        go_wp2_with fail
        go_loopw [9, 10, 84] (fun v9 v10 v84 wr => ∃ k : Nat, k ≤ n ∧ v84 = .int .i64 k ∧ v9 = .int .u64 (N.prodC q v k) ∧ v10 = .int .u32 (N.subB u (N.prodS q v) k) ∧ Own wr base g K K (pre ++ N.subS u (N.prodS q v) k ++ post) ∧ w.grownBy wr (some g)) (fun _ _ v84 _ => n - (intOf v84).toNat)
        case atStart => exact ⟨0, Nat.zero_le _, rfl, rfl, rfl, own_drewN hown _, gb_drewN (World.grownBy.refl _ _) _⟩
        case round =>
          obtain ⟨k, hk, rfl, rfl, rfl, hown2, hgr⟩ := hrel
          have hbk := N.subB_le u (N.prodS q v) k
          have hcl := N.prodC_lt hqB hlv k
          have hul := HUL.out
          have hSl : (N.subS u (N.prodS q v) k).length = n + 1 := by rw [N.subS_length]; exact hul
          by_cases hkn : k < n
          · have cu := win_cell (k := k) hown2 (by omega)
            rw [N.subS_dg_ge _ _ _ _ (Nat.le_refl _)] at cu
            have fu := hown2.free (pre.length + k)
            have cv := hgr.cell (HCV.out k hkn) (fun e => hbg (by injection e))
            have hcs := N.prodC_succ q v k
            have hpd := N.prodS_dg (q := q) v k (by rw [HVL.out]; exact hkn)
            have lu := N.dg_lt hlu k
            have lx := N.dg_lt hlv k
            have hz2 := N.mul_lt hqB lx
            have hS1 : N.subS u (N.prodS q v) (k + 1) = (N.subS u (N.prodS q v) k).set k (N.dif (N.dg u k) (N.dg (N.prodS q v) k) (N.subB u (N.prodS q v) k)) := rfl
            have hB1 : N.subB u (N.prodS q v) (k + 1) = N.bor (N.dg u k) (N.dg (N.prodS q v) k) (N.subB u (N.prodS q v) k) := rfl
            rw [hpd] at hS1 hB1
            have hmul : (q : Int) * (N.dg v k : Int) = ((q * N.dg v k : Nat) : Int) := (Int.natCast_mul _ _).symm
            generalize N.dg v k = x at *
            generalize q * x = z at *
            generalize N.prodC q v k = cc at *
            generalize N.dg u k = uk at *
            have hY : ((cc : Int) + (z : Int)) % 4294967296 = (((cc + z) % 4294967296 : Nat) : Int) := by omega
            have hD : ((cc : Int) + (z : Int)) / 4294967296 = (((cc + z) / 4294967296 : Nat) : Int) := by omega
            have lY : (cc + z) % 4294967296 < 4294967296 := Nat.mod_lt _ (by omega)
            have lD : cc + z < 18446744073709551616 := by omega
            have HCS := Lib.hid hcs
            have HS1 := Lib.hid hS1
            have HB1 := Lib.hid hB1
            have HPD := Lib.hid hpd
            have HSl := Lib.hid hSl
            clear hcs hS1 hB1 hpd hSl hul
            generalize (cc + z) % 4294967296 = Y at *
            generalize (cc + z) / 4294967296 = D at *
            go_wp2_with (go_at_call 97; refine (sub32_any uk Y (N.subB u (N.prodS q v) k) _ lu lY hbk).mono ?_; rintro e w' ⟨rfl, rfl⟩)
            go_roundw
            case rel => exact ⟨k + 1, by omega, by go_num, by rw [HCS.out], by rw [HB1.out], by rw [HS1.out]; exact win_set hown2 (by have := HSl.out; omega) _ (N.dif_lt _ _ _) _ rfl, gb_set hgr _ _⟩
            case measure => simp [intOf]; omega
          · obtain rfl : k = n := by omega
            have cu := win_cell (k := k) hown2 (by omega)
            rw [N.subS_dg_ge _ _ _ _ (Nat.le_refl _)] at cu
            have fu := hown2.free (pre.length + k)
            have lu := N.dg_lt hlu k
            have hpd : N.dg (N.prodS q v) k = N.prodC q v k := by
              have := N.prodS_dg_last (q := q) v
              rwa [HVL.out] at this
            have hS1 : N.subS u (N.prodS q v) (k + 1) = (N.subS u (N.prodS q v) k).set k (N.dif (N.dg u k) (N.dg (N.prodS q v) k) (N.subB u (N.prodS q v) k)) := rfl
            have hB1 : N.subB u (N.prodS q v) (k + 1) = N.bor (N.dg u k) (N.dg (N.prodS q v) k) (N.subB u (N.prodS q v) k) := rfl
            rw [hpd] at hS1 hB1
            have hw3 := win_set hown2 (k := k) (by omega) (N.dif (N.dg u k) (N.prodC q v k) (N.subB u (N.prodS q v) k)) (N.dif_lt _ _ _) _ rfl
            rw [← hS1] at hw3
            have hg3 := gb_set hgr (pre.length + k) (.int .u32 (N.dif (N.dg u k) (N.prodC q v k) (N.subB u (N.prodS q v) k) : Nat))
            have hSl3 : (N.subS u (N.prodS q v) (k + 1)).length = k + 1 := by rw [N.subS_length]; exact hul
            have hSlim := N.subS_lim hlu (N.prodS q v) (k + 1)
            have HS1 := Lib.hid hS1
            have HPD := Lib.hid hpd
            have HSl3 := Lib.hid hSl3
            have HSl := Lib.hid hSl
            clear hS1 hpd hul hSl hSl3
            by_cases hbz : N.subB u (N.prodS q v) (k + 1) = 0
            · have hres := N.digit_right hlu hlv HUL.out HVL.out hv0 hqB hQ0 hbz
              rw [hB1] at hbz
              have HRes := Lib.hid hres
              have HB1 := Lib.hid hB1
              clear hres hB1
              have ht : decide (0 < N.bor (N.dg u k) (N.prodC q v k) (N.subB u (N.prodS q v) k)) = false := by simp [hbz]
              have HBz := Lib.hid hbz
              clear hbz
              go_wp2_with (go_at_call 97; refine (sub32_any (N.dg u k) (N.prodC q v k) (N.subB u (N.prodS q v) k) _ lu hcl hbk).mono ?_; rintro e w' ⟨rfl, rfl⟩)
              go_ret
              exact ⟨_, ret_i (by rw [← HRes.out.1]), hw3, HSl3.out, HRes.out.2, hg3⟩
            · have hb1 : N.subB u (N.prodS q v) (k + 1) = 1 := by have := N.subB_le u (N.prodS q v) (k + 1); omega
              have hres := N.digit_back hlu hlv HUL.out HVL.out hv0 hqB hQ1 hQ0 hb1
              rw [hB1] at hb1
              have HRes := Lib.hid hres
              have HB1 := Lib.hid hB1
              clear hres hB1 hbz
              have ht : decide (0 < N.bor (N.dg u k) (N.prodC q v k) (N.subB u (N.prodS q v) k)) = true := by simp [hb1]
              have HBz := Lib.hid hb1
              have hq1 : 1 ≤ q := Nat.le_trans (Nat.le_add_left 1 _) (Nat.le_of_eq HRes.out.1.symm)
              clear hb1
              go_wp2_with (go_at_call 97; refine (sub32_any (N.dg u k) (N.prodC q v k) (N.subB u (N.prodS q v) k) _ lu hcl hbk).mono ?_; rintro e w' ⟨rfl, rfl⟩)
              clear cu fu
              obtain ⟨wx, hwx⟩ : ∃ wx : World, wx = wr.setCell ⟨g, pre.length + k, none⟩ (.int .u32 (N.dif (N.dg u k) (N.prodC q v k) (N.subB u (N.prodS q v) k) : Nat)) := ⟨_, rfl⟩
              rw [← hwx] at hw3 hg3 ⊢
              have HW := Lib.hid hwx
              clear hwx
              generalize N.subS u (N.prodS q v) (k + 1) = S at *
              go_loopw [13, 132] (fun v13 v132 wr => ∃ j : Nat, j ≤ k ∧ v132 = .int .i64 j ∧ v13 = .int .u32 (N.addC S v j) ∧ Own wr base g K K (pre ++ N.addI S v j ++ post) ∧ w.grownBy wr (some g)) (fun _ v132 _ => k - (intOf v132).toNat)
              case atStart => exact ⟨0, Nat.zero_le _, rfl, rfl, hw3, hg3⟩
              case round =>
                obtain ⟨j, hj, rfl, rfl, hown4, hgr4⟩ := hrel
                have hCle := N.addC_le hSlim hlv j
                have hAl : (N.addI S v j).length = k + 1 := by rw [N.addI_length]; exact HSl3.out
                have HAl := Lib.hid hAl
                clear hAl
                by_cases hjk : j < k
                · have cu := win_cell (k := j) hown4 (by have := HAl.out; omega)
                  rw [N.addI_dg_ge _ _ _ _ (Nat.le_refl _)] at cu
                  have fu := hown4.free (pre.length + j)
                  have cv := hgr4.cell (HCV.out j hjk) (fun e => hbg (by injection e))
                  have lS := N.dg_lt hSlim j
                  have lx := N.dg_lt hlv j
                  go_wp2_with (go_at_call 98; refine (add32_any (N.dg S j) (N.dg v j) (N.addC S v j) _ lS lx hCle).mono ?_; rintro e w' ⟨rfl, rfl⟩)
                  go_roundw
                  case rel =>
                    refine ⟨j + 1, by omega, by go_num, ?_, ?_, gb_set hgr4 _ _⟩
                    · simp only [N.addC]
                      rw [show N.addC S v j + N.dg S j + N.dg v j = N.dg S j + N.dg v j + N.addC S v j from by omega]; go_num
                    · simp only [N.addI]
                      exact win_set hown4 (by have := HAl.out; omega) _ (Nat.mod_lt _ (by omega)) _ rfl
                  case measure => simp [intOf]; omega
                · obtain rfl : j = k := by omega
                  have cu := win_cell (k := j) hown4 (by have := HAl.out; omega)
                  rw [N.addI_dg_ge _ _ _ _ (Nat.le_refl _)] at cu
                  have fu := hown4.free (pre.length + j)
                  have lS := N.dg_lt hSlim j
                  go_wp2_with fail
                  go_ret
                  refine ⟨_, ret_i ?_, win_set hown4 (by have := HAl.out; omega) ((N.dg S j + N.addC S v j) % 4294967296) (Nat.mod_lt _ (by omega)) _ (by omega), ?_, ?_, gb_set hgr4 _ _⟩
                  · have e := HRes.out.1
                    rw [show N.nv u / N.nv v = q - 1 from by rw [e, Nat.add_sub_cancel]]; omega
                  · rw [List.length_set]; exact HAl.out
                  · exact HRes.out.2
      · clear hro hcond
        have hd1 : decide ((rest : Int) < 4294967296) = false := by simp; omega
        go_wp2_with fail
        go_quiet (fail)
        clear hm3 hd1
        go_wp2_with fail
        go_loopw [9, 10, 84] (fun v9 v10 v84 wr => ∃ k : Nat, k ≤ n ∧ v84 = .int .i64 k ∧ v9 = .int .u64 (N.prodC q v k) ∧ v10 = .int .u32 (N.subB u (N.prodS q v) k) ∧ Own wr base g K K (pre ++ N.subS u (N.prodS q v) k ++ post) ∧ w.grownBy wr (some g)) (fun _ _ v84 _ => n - (intOf v84).toNat)
        case atStart => exact ⟨0, Nat.zero_le _, rfl, rfl, rfl, own_drewN hown _, gb_drewN (World.grownBy.refl _ _) _⟩
        case round =>
          obtain ⟨k, hk, rfl, rfl, rfl, hown2, hgr⟩ := hrel
          have hbk := N.subB_le u (N.prodS q v) k
          have hcl := N.prodC_lt hqB hlv k
          have hul := HUL.out
          have hSl : (N.subS u (N.prodS q v) k).length = n + 1 := by rw [N.subS_length]; exact hul
          by_cases hkn : k < n
          · have cu := win_cell (k := k) hown2 (by omega)
            rw [N.subS_dg_ge _ _ _ _ (Nat.le_refl _)] at cu
            have fu := hown2.free (pre.length + k)
            have cv := hgr.cell (HCV.out k hkn) (fun e => hbg (by injection e))
            have hcs := N.prodC_succ q v k
            have hpd := N.prodS_dg (q := q) v k (by rw [HVL.out]; exact hkn)
            have lu := N.dg_lt hlu k
            have lx := N.dg_lt hlv k
            have hz2 := N.mul_lt hqB lx
            have hS1 : N.subS u (N.prodS q v) (k + 1) = (N.subS u (N.prodS q v) k).set k (N.dif (N.dg u k) (N.dg (N.prodS q v) k) (N.subB u (N.prodS q v) k)) := rfl
            have hB1 : N.subB u (N.prodS q v) (k + 1) = N.bor (N.dg u k) (N.dg (N.prodS q v) k) (N.subB u (N.prodS q v) k) := rfl
            rw [hpd] at hS1 hB1
            have hmul : (q : Int) * (N.dg v k : Int) = ((q * N.dg v k : Nat) : Int) := (Int.natCast_mul _ _).symm
            generalize N.dg v k = x at *
            generalize q * x = z at *
            generalize N.prodC q v k = cc at *
            generalize N.dg u k = uk at *
            have hY : ((cc : Int) + (z : Int)) % 4294967296 = (((cc + z) % 4294967296 : Nat) : Int) := by omega
            have hD : ((cc : Int) + (z : Int)) / 4294967296 = (((cc + z) / 4294967296 : Nat) : Int) := by omega
            have lY : (cc + z) % 4294967296 < 4294967296 := Nat.mod_lt _ (by omega)
            have lD : cc + z < 18446744073709551616 := by omega
            have HCS := Lib.hid hcs
            have HS1 := Lib.hid hS1
            have HB1 := Lib.hid hB1
            have HPD := Lib.hid hpd
            have HSl := Lib.hid hSl
            clear hcs hS1 hB1 hpd hSl hul
            generalize (cc + z) % 4294967296 = Y at *
            generalize (cc + z) / 4294967296 = D at *
            go_wp2_with (go_at_call 97; refine (sub32_any uk Y (N.subB u (N.prodS q v) k) _ lu lY hbk).mono ?_; rintro e w' ⟨rfl, rfl⟩)
            go_roundw
            case rel => exact ⟨k + 1, by omega, by go_num, by rw [HCS.out], by rw [HB1.out], by rw [HS1.out]; exact win_set hown2 (by have := HSl.out; omega) _ (N.dif_lt _ _ _) _ rfl, gb_set hgr _ _⟩
            case measure => simp [intOf]; omega
          · obtain rfl : k = n := by omega
            have cu := win_cell (k := k) hown2 (by omega)
            rw [N.subS_dg_ge _ _ _ _ (Nat.le_refl _)] at cu
            have fu := hown2.free (pre.length + k)
            have lu := N.dg_lt hlu k
            have hpd : N.dg (N.prodS q v) k = N.prodC q v k := by
              have := N.prodS_dg_last (q := q) v
              rwa [HVL.out] at this
            have hS1 : N.subS u (N.prodS q v) (k + 1) = (N.subS u (N.prodS q v) k).set k (N.dif (N.dg u k) (N.dg (N.prodS q v) k) (N.subB u (N.prodS q v) k)) := rfl
            have hB1 : N.subB u (N.prodS q v) (k + 1) = N.bor (N.dg u k) (N.dg (N.prodS q v) k) (N.subB u (N.prodS q v) k) := rfl
            rw [hpd] at hS1 hB1
            have hw3 := win_set hown2 (k := k) (by omega) (N.dif (N.dg u k) (N.prodC q v k) (N.subB u (N.prodS q v) k)) (N.dif_lt _ _ _) _ rfl
            rw [← hS1] at hw3
            have hg3 := gb_set hgr (pre.length + k) (.int .u32 (N.dif (N.dg u k) (N.prodC q v k) (N.subB u (N.prodS q v) k) : Nat))
            have hSl3 : (N.subS u (N.prodS q v) (k + 1)).length = k + 1 := by rw [N.subS_length]; exact hul
            have hSlim := N.subS_lim hlu (N.prodS q v) (k + 1)
            have HS1 := Lib.hid hS1
            have HPD := Lib.hid hpd
            have HSl3 := Lib.hid hSl3
            have HSl := Lib.hid hSl
            clear hS1 hpd hul hSl hSl3
            by_cases hbz : N.subB u (N.prodS q v) (k + 1) = 0
            · have hres := N.digit_right hlu hlv HUL.out HVL.out hv0 hqB hQ0 hbz
              rw [hB1] at hbz
              have HRes := Lib.hid hres
              have HB1 := Lib.hid hB1
              clear hres hB1
              have ht : decide (0 < N.bor (N.dg u k) (N.prodC q v k) (N.subB u (N.prodS q v) k)) = false := by simp [hbz]
              have HBz := Lib.hid hbz
              clear hbz
              go_wp2_with (go_at_call 97; refine (sub32_any (N.dg u k) (N.prodC q v k) (N.subB u (N.prodS q v) k) _ lu hcl hbk).mono ?_; rintro e w' ⟨rfl, rfl⟩)
              go_ret
              exact ⟨_, ret_i (by rw [← HRes.out.1]), hw3, HSl3.out, HRes.out.2, hg3⟩
            · have hb1 : N.subB u (N.prodS q v) (k + 1) = 1 := by have := N.subB_le u (N.prodS q v) (k + 1); omega
              have hres := N.digit_back hlu hlv HUL.out HVL.out hv0 hqB hQ1 hQ0 hb1
              rw [hB1] at hb1
              have HRes := Lib.hid hres
              have HB1 := Lib.hid hB1
              clear hres hB1 hbz
              have ht : decide (0 < N.bor (N.dg u k) (N.prodC q v k) (N.subB u (N.prodS q v) k)) = true := by simp [hb1]
              have HBz := Lib.hid hb1
              have hq1 : 1 ≤ q := Nat.le_trans (Nat.le_add_left 1 _) (Nat.le_of_eq HRes.out.1.symm)
              clear hb1
              go_wp2_with (go_at_call 97; refine (sub32_any (N.dg u k) (N.prodC q v k) (N.subB u (N.prodS q v) k) _ lu hcl hbk).mono ?_; rintro e w' ⟨rfl, rfl⟩)
              clear cu fu
              obtain ⟨wx, hwx⟩ : ∃ wx : World, wx = wr.setCell ⟨g, pre.length + k, none⟩ (.int .u32 (N.dif (N.dg u k) (N.prodC q v k) (N.subB u (N.prodS q v) k) : Nat)) := ⟨_, rfl⟩
              rw [← hwx] at hw3 hg3 ⊢
              have HW := Lib.hid hwx
              clear hwx
              generalize N.subS u (N.prodS q v) (k + 1) = S at *
              go_loopw [13, 132] (fun v13 v132 wr => ∃ j : Nat, j ≤ k ∧ v132 = .int .i64 j ∧ v13 = .int .u32 (N.addC S v j) ∧ Own wr base g K K (pre ++ N.addI S v j ++ post) ∧ w.grownBy wr (some g)) (fun _ v132 _ => k - (intOf v132).toNat)
              case atStart => exact ⟨0, Nat.zero_le _, rfl, rfl, hw3, hg3⟩
              case round =>
                obtain ⟨j, hj, rfl, rfl, hown4, hgr4⟩ := hrel
                have hCle := N.addC_le hSlim hlv j
                have hAl : (N.addI S v j).length = k + 1 := by rw [N.addI_length]; exact HSl3.out
                have HAl := Lib.hid hAl
                clear hAl
                by_cases hjk : j < k
                · have cu := win_cell (k := j) hown4 (by have := HAl.out; omega)
                  rw [N.addI_dg_ge _ _ _ _ (Nat.le_refl _)] at cu
                  have fu := hown4.free (pre.length + j)
                  have cv := hgr4.cell (HCV.out j hjk) (fun e => hbg (by injection e))
                  have lS := N.dg_lt hSlim j
                  have lx := N.dg_lt hlv j
                  go_wp2_with (go_at_call 98; refine (add32_any (N.dg S j) (N.dg v j) (N.addC S v j) _ lS lx hCle).mono ?_; rintro e w' ⟨rfl, rfl⟩)
                  go_roundw
                  case rel =>
                    refine ⟨j + 1, by omega, by go_num, ?_, ?_, gb_set hgr4 _ _⟩
                    · simp only [N.addC]
                      rw [show N.addC S v j + N.dg S j + N.dg v j = N.dg S j + N.dg v j + N.addC S v j from by omega]; go_num
                    · simp only [N.addI]
                      exact win_set hown4 (by have := HAl.out; omega) _ (Nat.mod_lt _ (by omega)) _ rfl
                  case measure => simp [intOf]; omega
                · obtain rfl : j = k := by omega
                  have cu := win_cell (k := j) hown4 (by have := HAl.out; omega)
                  rw [N.addI_dg_ge _ _ _ _ (Nat.le_refl _)] at cu
                  have fu := hown4.free (pre.length + j)
                  have lS := N.dg_lt hSlim j
                  go_wp2_with fail
                  go_ret
                  refine ⟨_, ret_i ?_, win_set hown4 (by have := HAl.out; omega) ((N.dg S j + N.addC S v j) % 4294967296) (Nat.mod_lt _ (by omega)) _ (by omega), ?_, ?_, gb_set hgr4 _ _⟩
                  · have e := HRes.out.1
                    rw [show N.nv u / N.nv v = q - 1 from by rw [e, Nat.add_sub_cancel]]; omega
                  · rw [List.length_set]; exact HAl.out
                  · exact HRes.out.2
end Go.Proofs.YtiidghfkdjefgaaDoor

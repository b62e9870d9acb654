/-
  riddleref02.Parse: contracts.
-/
import Derived.Test.YtiidghfkdjefgaaDoorZRText
namespace Go.Proofs.YtiidghfkdjefgaaDoor
open Go.RowKit

theorem zok_pos {S : ByteArray} (h : zok S.data.toList) : 0 < S.size := by
  rcases Nat.eq_zero_or_pos S.size with h0 | h0
  · have hnil : S.data.toList = [] := List.eq_nil_of_length_eq_zero (by rw [Array.length_toList]; exact h0)
    have h1 := h.1.1
    rw [hnil] at h1
    exact absurd rfl h1
  · exact h0
set_option maxRecDepth 100000 in
set_option maxHeartbeats 1600000 in
theorem parse_r (w : World) (S : ByteArray) (hs : S.size ≤ 1099511627776) (hok : zok S.data.toList) :
    Calls Tryd.prog 17 #[.string S] w fun e w' => ∃ v, e = .returned (.tuple #[v, .int .i64 0]) ∧ ICan w' v S.size (zval S.data.toList) ∧ Below w.heap.size w w' := by
  have hpos := zok_pos hok
  have hb0 := below_alloc1 w (.cells #[.bool false, .slice none 0 0] 24)
  have hp0 := Pair.new w 24 (.bool false) (.slice none 0 0)
  obtain ⟨hne, hnil⟩ := not_empty hpos
  obtain ⟨h00, hc, hf, ht⟩ : ∃ h : 0 < S.size, (((S[0]'h).toNat : Int) == 45) = zneg S.data.toList ∧ (zneg S.data.toList = false → zdig S.data.toList = S.data.toList) ∧ (zneg S.data.toList = true → zdig S.data.toList = S.data.toList.drop 1) := by
    rcases zneg_head S with ⟨h, _⟩ | h
    · omega
    · exact h
  obtain ⟨hk1, hk2⟩ := hok
  obtain ⟨Z, hZ⟩ : ∃ Z, Z = zval S.data.toList := ⟨_, rfl⟩
  rw [← hZ]
  unfold zval at hZ
  generalize hβ : zneg S.data.toList = β at *
  have hsz0 : (0 : Int) < S.size := by omega
  have hsz1 : (1 : Int) ≤ S.size := by omega
  have HZ := Lib.hid hZ
  have HNIL := Lib.hid hnil
  clear hZ hnil
  cases β
  · have hd := hf rfl
    have HD := Lib.hid hd
    rw [hd] at hk1
    have HK := Lib.hid hk1
    clear hf ht hk1 hk2 hβ hd
    go_enter Tryd.func17, Tryd.ntmps17
    go_wp2_with fail
    refine (rparse_ok _ S hs HK.out).mono ?_
    rintro e w1 ⟨v, rfl, ⟨A, n, c, rfl, hs1, hn1⟩, hb1⟩
    replace hp0 := hp0.below hb1
    have hbw := below_on hb0 hb1
    clear hb0 hb1
    go_wp2_with fail
    refine (norm_v (s := false) (K := S.size) (x := N.val S.data.toList) ⟨A, n, c, _, rfl, hs1, N.nv_ofN _, hn1⟩ (by omega)).mono ?_
    rintro e w2 ⟨u, rfl, hu, hb2⟩
    rw [show sgn false (N.val S.data.toList) = Z by rw [HZ.out, HD.out]] at hu
    obtain ⟨d, A2, n2, c2, rfl, HDD, hg⟩ := hu.form
    replace hp0 := hp0.below hb2
    replace hbw := below_on hbw hb2
    obtain ⟨f0, f1, c0, c1⟩ := hp0.facts
    clear hu hb2 hs1
    go_wp2_with fail
    refine bodyPost_ret (results_on1 rfl _ _ _ _ _ rfl (hp0.set _ _)) rfl ?_
    exact ⟨_, rfl, ICan.mk HDD.out (hg.pair hp0 _ _), below_pair hbw (Nat.le_refl _) _ _⟩
  · have hd := ht rfl
    rw [hd] at hk1 hk2
    have hx : N.val (S.data.toList.drop 1) ≠ 0 := fun h => hk2 ⟨rfl, h⟩
    obtain ⟨D, hD⟩ : ∃ D : ByteArray, D = S.extract 1 S.size := ⟨_, rfl⟩
    have hDl : D.data.toList = S.data.toList.drop 1 := by rw [hD]; exact ext_drop
    have hDs : D.size = S.size - 1 := by rw [hD]; exact ext_drop_size
    rw [← hDl] at hk1 hx
    have HDV : Hid (Z = sgn true (N.val D.data.toList)) := Lib.hid (by rw [HZ.out, hd, hDl])
    have HK := Lib.hid hk1
    have HXX := Lib.hid hx
    have HDE := Lib.hid hD
    clear hf ht hk1 hk2 hβ hd hx hD hDl HZ
    go_enter Tryd.func17, Tryd.ntmps17
    go_wp2_with fail
    rw [← HDE.out]
    refine (rparse_ok _ D (by omega) HK.out).mono ?_
    rintro e w1 ⟨v, rfl, ⟨A, n, c, rfl, hs1, hn1⟩, hb1⟩
    replace hp0 := hp0.below hb1
    have hbw := below_on hb0 hb1
    clear hb0 hb1
    go_wp2_with fail
    refine (rtrim_any _ A n c _ hs1 (by omega)).mono ?_
    rintro e w2 ⟨g, k, c2, rfl, ho, hb2⟩
    have hk : 0 < k := by
      have h1 := ho.len
      rw [N.nv_ofN] at h1
      rcases Nat.eq_zero_or_pos k with h0 | h0
      · have h2 := List.eq_nil_of_length_eq_zero (h1.trans h0)
        rw [N.ofN_eq_nil] at h2
        exact absurd h2 HXX.out
      · exact h0
    have tk : ((k : Int) == 0) = false := by simp; omega
    replace hs1 := hs1.below hb2
    replace hp0 := hp0.below hb2
    replace hbw := below_on hbw hb2
    clear ho hb2
    go_wp2_with fail
    refine (norm_v (s := true) (K := S.size) (x := N.val D.data.toList) ⟨A, n, c, _, rfl, hs1, N.nv_ofN _, by omega⟩ (by omega)).mono ?_
    rintro e w3 ⟨u, rfl, hu, hb3⟩
    rw [← HDV.out] at hu
    obtain ⟨d, A2, n2, c3, rfl, HDD, hg⟩ := hu.form
    replace hp0 := hp0.below hb3
    replace hbw := below_on hbw hb3
    obtain ⟨f0, f1, c0, c1⟩ := hp0.facts
    clear hu hb3 hs1
    go_wp2_with fail
    refine bodyPost_ret (results_on1 rfl _ _ _ _ _ rfl (hp0.set _ _)) rfl ?_
    exact ⟨_, rfl, ICan.mk HDD.out (hg.pair hp0 _ _), below_pair hbw (Nat.le_refl _) _ _⟩
set_option maxRecDepth 100000 in
set_option maxHeartbeats 1600000 in
theorem parse_rb (w : World) (S : ByteArray) (hs : S.size ≤ 1099511627776) (hok : ¬ zok S.data.toList) :
    Calls Tryd.prog 17 #[.string S] w fun e w' => ∃ v, e = .returned (.tuple #[v, .int .i64 12]) ∧ ICan w' v 0 0 ∧ Below w.heap.size w w' := by
  have hb0 := below_alloc1 w (.cells #[.bool false, .slice none 0 0] 24)
  have hp0 := Pair.new w 24 (.bool false) (.slice none 0 0)
  rcases zneg_head S with ⟨hS0, hn, hdg⟩ | ⟨h00, hc, hf, ht⟩
  · have hne : S.toList = [] := by rw [ByteArray.toList_eq]; exact List.eq_nil_of_length_eq_zero (by rw [Array.length_toList]; exact hS0)
    have hnok : ¬ N.okTxt S.data.toList := fun h => hok ⟨by rw [hdg]; exact h, fun ⟨h1, _⟩ => by rw [hn] at h1; cases h1⟩
    have HN := Lib.hid hnok
    clear hok hn hdg hnok
    go_enter Tryd.func17, Tryd.ntmps17
    go_wp2_with fail
    refine (rparse_bad _ S hs HN.out).mono ?_
    rintro e w1 ⟨rfl, rfl⟩
    obtain ⟨f0, f1, c0, c1⟩ := hp0.facts
    go_wp2_with fail
    refine bodyPost_ret (results_on1 rfl _ _ _ _ _ rfl hp0) rfl ?_
    exact ⟨_, rfl, ican_z0 _, hb0⟩
  · obtain ⟨hne, hnil⟩ := not_empty h00
    have hsz0 : (0 : Int) < S.size := by omega
    have hsz1 : (1 : Int) ≤ S.size := by omega
    have HNIL := Lib.hid hnil
    unfold zok at hok
    generalize hβ : zneg S.data.toList = β at *
    clear hnil
    cases β
    · rw [hf rfl] at hok
      have hnok : ¬ N.okTxt S.data.toList := fun h => hok ⟨h, fun ⟨h1, _⟩ => by cases h1⟩
      have HN := Lib.hid hnok
      clear hok hf ht hnok hβ
      go_enter Tryd.func17, Tryd.ntmps17
      go_wp2_with fail
      refine (rparse_bad _ S hs HN.out).mono ?_
      rintro e w1 ⟨rfl, rfl⟩
      obtain ⟨f0, f1, c0, c1⟩ := hp0.facts
      go_wp2_with fail
      refine bodyPost_ret (results_on1 rfl _ _ _ _ _ rfl hp0) rfl ?_
      exact ⟨_, rfl, ican_z0 _, hb0⟩
    · rw [ht rfl] at hok
      obtain ⟨D, hD⟩ : ∃ D : ByteArray, D = S.extract 1 S.size := ⟨_, rfl⟩
      have hDl : D.data.toList = S.data.toList.drop 1 := by rw [hD]; exact ext_drop
      have hDs : D.size = S.size - 1 := by rw [hD]; exact ext_drop_size
      rw [← hDl] at hok
      have HOK := Lib.hid hok
      have HDE := Lib.hid hD
      clear hok hf ht hβ hD hDl
      go_enter Tryd.func17, Tryd.ntmps17
      go_wp2_with fail
      rw [← HDE.out]
      by_cases hk : N.okTxt D.data.toList
      · have hx : N.val D.data.toList = 0 := Classical.byContradiction fun h => HOK.out ⟨hk, fun ⟨_, h2⟩ => h h2⟩
        refine (rparse_ok _ D (by omega) hk).mono ?_
        rintro e w1 ⟨v, rfl, ⟨A, n, c, rfl, hs1, hn1⟩, hb1⟩
        rw [hx] at hs1
        replace hp0 := hp0.below hb1
        have hbw := below_on hb0 hb1
        clear hb0 hb1 hx hk
        go_wp2_with fail
        refine (rtrim_any _ A n c _ hs1 (by omega)).mono ?_
        rintro e w2 ⟨g, k, c2, rfl, ho, hb2⟩
        obtain rfl : k = 0 := by rw [← ho.len]; rfl
        replace hp0 := hp0.below hb2
        replace hbw := below_on hbw hb2
        obtain ⟨f0, f1, c0, c1⟩ := hp0.facts
        clear ho hb2 hs1
        go_wp2_with fail
        refine bodyPost_ret (results_on1 rfl _ _ _ _ _ rfl (hp0.set _ _)) rfl ?_
        exact ⟨_, rfl, ican_z0 _, below_pair hbw (Nat.le_refl _) _ _⟩
      · refine (rparse_bad _ D (by omega) hk).mono ?_
        rintro e w1 ⟨rfl, rfl⟩
        obtain ⟨f0, f1, c0, c1⟩ := hp0.facts
        clear hk
        go_wp2_with fail
        refine bodyPost_ret (results_on1 rfl _ _ _ _ _ rfl hp0) rfl ?_
        exact ⟨_, rfl, ican_z0 _, hb0⟩
/-- A number's text is a text of that number. -/
theorem ztxt_dig (z : Int) : zneg (ztxt z) = decide (z < 0) ∧ zdig (ztxt z) = N.txt z.natAbs := by
  by_cases h : z < 0
  · rw [decide_eq_true h]
    unfold ztxt
    rw [if_pos h]
    exact ⟨rfl, rfl⟩
  · rw [decide_eq_false h]
    unfold ztxt
    rw [if_neg h]
    have hn : Lib.hasPrefix (N.txt z.natAbs) [45] = false := by
      unfold Lib.hasPrefix
      cases ht : N.txt z.natAbs with
      | nil => exact absurd ht (N.txt_ne_nil _)
      | cons c r =>
        have hc := N.txt_digs z.natAbs c (by rw [ht]; simp)
        have h4 : (45 == c) = false := by
          have : ¬ 45 = c := fun e => by rw [← e] at hc; exact absurd hc.1 (by decide)
          simpa using this
        simp [List.isPrefixOf, h4]
    refine ⟨hn, ?_⟩
    unfold zdig Lib.trimPrefix
    rw [hn]
    rfl
theorem ztxt_ok (z : Int) : zok (ztxt z) ∧ zval (ztxt z) = z := by
  obtain ⟨h1, h2⟩ := ztxt_dig z
  unfold zok zval
  rw [h1, h2, N.val_txt]
  exact ⟨⟨N.okTxt_txt _, fun ⟨h3, h4⟩ => by have := of_decide_eq_true h3; omega⟩, sgn_abs z⟩
end Go.Proofs.YtiidghfkdjefgaaDoor

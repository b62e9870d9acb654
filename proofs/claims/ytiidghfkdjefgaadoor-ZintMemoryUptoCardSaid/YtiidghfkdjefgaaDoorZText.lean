/-
  zint.Text, Limbs, Parse: contracts.
-/
import Derived.Test.YtiidghfkdjefgaaDoorZRef4
import Derived.Test.YtiidghfkdjefgaaDoorRText
import Derived.Test.YtiidghfkdjefgaaDoorRParse
import Derived.Laws.Concat
namespace Go.Proofs.YtiidghfkdjefgaaDoor
open Go.RowKit

theorem results_on1 {fn : Func} {p u : Tmp} (h : fn.results = #[.cell p 24, .tmp u]) (tmps : Array Value) (w : World) (g : Nat) (v0 v1 : Value)
    (hp : tmps.getD p undef = .pointer (some ⟨g, 0, none⟩)) (hg : Pair w g 24 v0 v1) :
    (results fn tmps).run Tryd.prog w = .ok (.tuple #[.agg #[v0, v1], tmps.getD u undef]) w := by
  have hp' : tmps[p]?.getD undef = .pointer (some ⟨g, 0, none⟩) := by simpa using hp
  simp [results, h, hp', asAddr, run_loadVar_row w g _ 24 _ _ _ hg Tryd.underlying24 rfl sizeInt]
theorem ican_z0 (w : World) : ICan w (.agg #[.bool false, .slice none 0 0]) 0 0 := ⟨_, rfl, none, 0, 0, rfl, Pl.any _, Sl.nil _ _ _, Nat.le_refl _⟩
/-- A number's decimal text. -/
def ztxt (z : Int) : List UInt8 := if z < 0 then 45 :: N.txt z.natAbs else N.txt z.natAbs
set_option maxRecDepth 100000 in
set_option maxHeartbeats 1600000 in
theorem text_i {w : World} {v : Value} {K : Nat} {z : Int} (h : IV w v K z) (hK : K ≤ 1099511627776) :
    Calls Tryd.prog 18 #[v] w fun e w' => e = .returned (.string ⟨(ztxt z).toArray⟩) ∧ Below w.heap.size w w' := by
  obtain ⟨G, hG⟩ : ∃ G, G = ztxt z := ⟨_, rfl⟩
  rw [← hG]
  unfold ztxt at hG
  have HG := Lib.hid hG
  clear hG
  obtain ⟨s, x, ⟨sl, rfl, hm⟩, hz⟩ := h
  have hx : x = z.natAbs := by rw [← hz, natAbs_sgn]
  have HX := Lib.hid hx
  have HZ := Lib.hid hz
  clear hz hx
  obtain ⟨W, hW, hp0, hbw⟩ : ∃ W : World, W = w.alloc (.cells #[.bool s, sl] 24) ∧ Pair W w.heap.size 24 (.bool s) sl ∧ Below w.heap.size w W := ⟨_, rfl, Pair.new _ _ _ _, below_alloc1 _ _⟩
  have HW := Lib.hid hW
  clear hW
  go_enter Tryd.func18, Tryd.ntmps18
  go_wp2_with fail
  rw [← HW.out]
  refine (sign_i (z := z) (K := K) ⟨s, x, ⟨_, rfl, hm.below hbw⟩, HZ.out⟩ (by omega)).mono ?_
  rintro e w1 ⟨rfl, hb1⟩
  replace hp0 := hp0.below hb1
  replace hbw := below_on hbw hb1
  obtain ⟨_, _, c00, c01⟩ := hp0.facts
  clear hb1 hp0 HW
  obtain ⟨p, hp⟩ : ∃ p, isgn z = p := ⟨_, rfl⟩
  rw [hp]
  rcases isgn_cases z with ⟨h1, e1⟩ | ⟨h1, e1⟩ | ⟨h1, e1⟩
  · rw [e1] at hp
    subst hp
    have H1 := Lib.hid h1
    clear h1 e1
    go_wp2_with fail
    have hl := txt_len_bits hm.val.lt
    refine (text_v (hm.below hbw).val (by omega)).mono ?_
    rintro e w2 ⟨rfl, hb2⟩
    replace hbw := below_on hbw hb2
    obtain ⟨D, hD⟩ : ∃ D : ByteArray, D = ⟨(N.txt x).toArray⟩ := ⟨_, rfl⟩
    have hDs : D.size ≤ 32 * K + 1 := by rw [hD]; simpa [ByteArray.size] using hl
    rw [← hD]
    have HD := Lib.hid hD
    clear hD hl
    have hns : ¬ (9223372036854775807 < 1 + D.size) := by omega
    have hns2 : ¬ (9223372036854775807 < ByteArray.size ⟨#[45]⟩ + D.size) := hns
    go_wp2_with fail
    go_ret
    refine ⟨?_, hbw⟩
    rw [HG.out, if_pos H1.out, ← HX.out]
    refine congrArg Ending.returned (congrArg Value.string ?_)
    rw [HD.out]
    apply ByteArray.ext
    simp
  all_goals
    rw [e1] at hp
    subst hp
    have H1 := Lib.hid h1
    clear h1 e1
    go_wp2_with fail
    refine (text_v (hm.below hbw).val (by omega)).mono ?_
    rintro e w2 ⟨rfl, hb2⟩
    replace hbw := below_on hbw hb2
    go_wp2_with fail
    go_ret
    exact ⟨by rw [HG.out, if_neg (by have := H1.out; omega), ← HX.out]; rfl, hbw⟩
set_option maxRecDepth 100000 in
set_option maxHeartbeats 1600000 in
theorem limbs_i {w : World} {v : Value} {K : Nat} {z : Int} (h : IV w v K z) (hK : K ≤ 35184372088832) :
    Calls Tryd.prog 19 #[v] w fun e w' => e = .returned (.int .i64 ((N.ofN z.natAbs).length : Nat)) ∧ Below w.heap.size w w' := by
  obtain ⟨s, x, ⟨sl, rfl, A, n, c, l, rfl, hp, hs, rfl, hn⟩, rfl⟩ := h
  rw [natAbs_sgn]
  obtain ⟨G, hG⟩ : ∃ G, G = (N.ofN (N.nv l)).length := ⟨_, rfl⟩
  rw [← hG]
  have HG := Lib.hid hG
  clear hG
  have hbw := below_alloc1 w (.cells #[.bool s, .slice A n c] 24)
  go_enter Tryd.func19, Tryd.ntmps19
  go_wp2_with fail
  refine (ztrim_any _ A n c l (hs.below hbw) (by omega)).mono ?_
  rintro e w1 ⟨v, rfl, hv, hb1, _⟩
  obtain ⟨A1, k, c1, rfl⟩ := hv.slice
  have hk := hv.len
  have HK := Lib.hid hk
  replace hbw := below_on hbw hb1
  clear hk hv hb1 hs
  go_wp2_with fail
  go_ret
  exact ⟨by rw [HG.out, ← HK.out]; rfl, hbw⟩

/-- A text of a number: a sign, digits; nought has no sign. -/
def zdig (S : List UInt8) : List UInt8 := Lib.trimPrefix S [45]
def zneg (S : List UInt8) : Bool := Lib.hasPrefix S [45]
def zok (S : List UInt8) : Prop := N.okTxt (zdig S) ∧ ¬ (zneg S = true ∧ N.val (zdig S) = 0)
def zval (S : List UInt8) : Int := sgn (zneg S) (N.val (zdig S))
theorem zdig_len (S : List UInt8) : (zdig S).length ≤ S.length := by
  unfold zdig Lib.trimPrefix
  split
  · rw [List.length_drop]; omega
  · exact Nat.le_refl _
theorem val_limbs {l : List UInt8} {k : Nat} (h : N.okTxt l) (hk : l.length ≤ k) : (N.ofN (N.val l)).length ≤ k := by
  refine N.ofN_length_le (Nat.lt_of_lt_of_le (N.val_lt h.2.1) ?_)
  exact Nat.le_trans (Nat.pow_le_pow_left (by omega) _) (Nat.pow_le_pow_right (by omega) hk)
set_option maxRecDepth 100000 in
set_option maxHeartbeats 1600000 in
theorem parse_i (w : World) (S : ByteArray) (hs : S.size ≤ 1099511627776) (hok : zok S.data.toList) :
    Calls Tryd.prog 16 #[.string S] w fun e w' => ∃ v, e = .returned (.tuple #[v, .int .i64 0]) ∧ ICan w' v S.size (zval S.data.toList) ∧ Below w.heap.size w w' := by
  have hb0 := below_alloc1 w (.cells #[.bool false, .slice none 0 0] 24)
  have hp0 := Pair.new w 24 (.bool false) (.slice none 0 0)
  have hlen : (zdig S.data.toList).length ≤ S.size := zdig_len _
  obtain ⟨hk1, hk2⟩ := hok
  have hkl := val_limbs hk1 hlen
  obtain ⟨Z, hZ⟩ : ∃ Z, Z = zval S.data.toList := ⟨_, rfl⟩
  rw [← hZ]
  go_enter Tryd.func16, Tryd.ntmps16
  go_wp2_with fail
  refine (Tryd.strings_CutPrefix S ⟨#[45]⟩ _).mono ?_
  rintro e w1 ⟨rfl, rfl⟩
  obtain ⟨D, hD⟩ : ∃ D : ByteArray, D = ⟨(Lib.trimPrefix S.data.toList [45]).toArray⟩ := ⟨_, rfl⟩
  obtain ⟨β, hβ⟩ : ∃ β : Bool, β = Lib.hasPrefix S.data.toList [45] := ⟨_, rfl⟩
  rw [← hD, ← hβ]
  have hDl : D.data.toList = zdig S.data.toList := by rw [hD]; rfl
  have hDs : D.size ≤ 1099511627776 := by
    have : D.size = D.data.toList.length := Array.length_toList.symm
    rw [this, hDl]; omega
  change β = zneg S.data.toList at hβ
  rw [← hβ] at hk2
  have hzv : Z = sgn β (N.val (zdig S.data.toList)) := by rw [hZ, hβ]; rfl
  rw [← hDl] at hk1 hk2 hkl hzv
  have HZV := Lib.hid hzv
  clear hD hDl hzv hZ hlen hβ
  go_wp2_with fail
  refine (parse_ok _ D hDs hk1).mono ?_
  rintro e w2 ⟨g, n, c, rfl, ho, hb2⟩
  have hg := own_bag ho hkl
  replace hp0 := hp0.below hb2
  have hbw := below_on hb0 hb2
  clear ho hb0 hb2
  obtain ⟨x, hx⟩ : ∃ x, x = N.val D.data.toList := ⟨_, rfl⟩
  have hZx : Z = sgn β x := by rw [hx]; exact HZV.out
  rw [← hx] at hg hk2
  have HZX := Lib.hid hZx
  clear HZV hZx hx hkl
  cases β
  · go_wp2_with fail
    refine (made_any _ false _ S.size x hg.mag (by omega)).mono ?_
    rintro e w3 ⟨u, rfl, hu, hb3⟩
    rw [← HZX.out] at hu
    obtain ⟨d, A, k, c1, rfl, HD, hgu⟩ := hu.form
    replace hp0 := hp0.below hb3
    replace hbw := below_on hbw hb3
    obtain ⟨f0, f1, c0, c1⟩ := hp0.facts
    clear hu hb3 hg hk1 hk2
    go_wp2_with fail
    refine bodyPost_ret (results_on1 rfl _ _ _ _ _ rfl (hp0.set _ _)) rfl ?_
    exact ⟨_, rfl, ICan.mk HD.out (hgu.pair hp0 _ _), below_pair hbw (Nat.le_refl _) _ _⟩
  · have hx : x ≠ 0 := fun h => hk2 ⟨rfl, h⟩
    have hgg := hg
    obtain ⟨A0, n0, c0, l0, e0, hp0', hs0, hx0, hn0⟩ := hg.mag
    injection e0 with e1 e2 e3
    subst e1; subst e2; subst e3
    clear hg
    have HX0 := Lib.hid hx0
    clear hx0
    go_wp2_with fail
    refine (ztrim_any _ _ n c l0 hs0 (by omega)).mono ?_
    rintro e w3 ⟨v, rfl, hv, hb3, _⟩
    obtain ⟨A1, k, c1, rfl⟩ := hv.slice
    have hk : 0 < k := by
      rw [HX0.out] at hv
      rcases Nat.eq_zero_or_pos k with h0 | h0
      · have h2 := List.eq_nil_of_length_eq_zero (hv.len.symm.trans h0)
        rw [N.ofN_eq_nil] at h2
        exact absurd h2 hx
      · exact h0
    have tk : ((k : Int) == 0) = false := by simp; omega
    replace hgg := hgg.below hb3
    replace hp0 := hp0.below hb3
    replace hbw := below_on hbw hb3
    clear hv hb3 hs0 hp0' hk1 hk2
    go_wp2_with fail
    refine (made_any _ true _ S.size x hgg.mag (by omega)).mono ?_
    rintro e w4 ⟨u, rfl, hu, hb4⟩
    rw [← HZX.out] at hu
    obtain ⟨d, A, m, c2, rfl, HD, hgu⟩ := hu.form
    replace hp0 := hp0.below hb4
    replace hbw := below_on hbw hb4
    obtain ⟨f0, f1, c0, c1⟩ := hp0.facts
    clear hu hb4 hgg
    go_wp2_with fail
    refine bodyPost_ret (results_on1 rfl _ _ _ _ _ rfl (hp0.set _ _)) rfl ?_
    exact ⟨_, rfl, ICan.mk HD.out (hgu.pair hp0 _ _), below_pair hbw (Nat.le_refl _) _ _⟩
set_option maxRecDepth 100000 in
set_option maxHeartbeats 1600000 in
theorem parse_ib (w : World) (S : ByteArray) (hs : S.size ≤ 1099511627776) (hok : ¬ zok S.data.toList) :
    Calls Tryd.prog 16 #[.string S] w fun e w' => ∃ v, e = .returned (.tuple #[v, .int .i64 12]) ∧ ICan w' v 0 0 ∧ Below w.heap.size w w' := by
  have hb0 := below_alloc1 w (.cells #[.bool false, .slice none 0 0] 24)
  have hp0 := Pair.new w 24 (.bool false) (.slice none 0 0)
  have hlen : (zdig S.data.toList).length ≤ S.size := zdig_len _
  go_enter Tryd.func16, Tryd.ntmps16
  go_wp2_with fail
  refine (Tryd.strings_CutPrefix S ⟨#[45]⟩ _).mono ?_
  rintro e w1 ⟨rfl, rfl⟩
  obtain ⟨D, hD⟩ : ∃ D : ByteArray, D = ⟨(Lib.trimPrefix S.data.toList [45]).toArray⟩ := ⟨_, rfl⟩
  obtain ⟨β, hβ⟩ : ∃ β : Bool, β = Lib.hasPrefix S.data.toList [45] := ⟨_, rfl⟩
  rw [← hD, ← hβ]
  have hDl : D.data.toList = zdig S.data.toList := by rw [hD]; rfl
  have hDs : D.size ≤ 1099511627776 := by
    have : D.size = D.data.toList.length := Array.length_toList.symm
    rw [this, hDl]; omega
  change β = zneg S.data.toList at hβ
  have hok2 : N.okTxt D.data.toList → β = true ∧ N.val D.data.toList = 0 := fun h => Classical.byContradiction fun hn => hok ⟨by rw [← hDl]; exact h, fun ⟨h1, h2⟩ => hn ⟨by rw [hβ]; exact h1, by rw [hDl]; exact h2⟩⟩
  have hkl : N.okTxt D.data.toList → (N.ofN (N.val D.data.toList)).length ≤ S.size := fun h => val_limbs h (by rw [hDl]; exact hlen)
  clear hD hDl hlen hβ hok
  go_wp2_with fail
  by_cases hD1 : N.okTxt D.data.toList
  · refine (parse_ok _ D hDs hD1).mono ?_
    rintro e w2 ⟨g, n, c, rfl, ho, hb2⟩
    obtain ⟨rfl, hx⟩ := hok2 hD1
    have hg := own_bag ho (hkl hD1)
    rw [hx] at hg
    replace hp0 := hp0.below hb2
    have hbw := below_on hb0 hb2
    clear ho hb0 hb2 hok2 hkl hx hD1
    obtain ⟨A0, n0, c0, l0, e0, hp0', hs0, hx0, hn0⟩ := hg.mag
    injection e0 with e1 e2 e3
    subst e1; subst e2; subst e3
    clear hg
    have HX0 := Lib.hid hx0
    clear hx0
    go_wp2_with fail
    refine (ztrim_any _ _ n c l0 hs0 (by omega)).mono ?_
    rintro e w3 ⟨v, rfl, hv, hb3, _⟩
    obtain ⟨A1, k, c1, rfl⟩ := hv.slice
    obtain rfl : k = 0 := by
      rw [HX0.out] at hv
      rw [hv.len]; rfl
    replace hp0 := hp0.below hb3
    replace hbw := below_on hbw hb3
    obtain ⟨f0, f1, c0, c1⟩ := hp0.facts
    clear hv hb3 hs0 hp0'
    go_wp2_with fail
    refine bodyPost_ret (results_on1 rfl _ _ _ _ _ rfl (hp0.set _ _)) rfl ?_
    exact ⟨_, rfl, ican_z0 _, below_pair hbw (Nat.le_refl _) _ _⟩
  · refine (parse_bad _ D (by omega) hD1).mono ?_
    rintro e w2 ⟨rfl, hb2⟩
    replace hp0 := hp0.below hb2
    have hbw := below_on hb0 hb2
    obtain ⟨f0, f1, c0, c1⟩ := hp0.facts
    clear hok2 hkl hD1 hb0 hb2
    go_wp2_with fail
    refine bodyPost_ret (results_on1 rfl _ _ _ _ _ rfl (hp0.set _ _)) rfl ?_
    exact ⟨_, rfl, ican_z0 _, below_pair hbw (Nat.le_refl _) _ _⟩
end Go.Proofs.YtiidghfkdjefgaaDoor

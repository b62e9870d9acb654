/-
  riddleref02.Text, Limbs, Parse: contracts.
-/
import Derived.Test.YtiidghfkdjefgaaDoorZText
namespace Go.Proofs.YtiidghfkdjefgaaDoor
open Go.RowKit

set_option maxRecDepth 100000 in
set_option maxHeartbeats 1600000 in
theorem text_r {w : World} {v : Value} {K : Nat} {z : Int} (h : IV w v K z) (hK : K ≤ 34359738368) :
    Calls Tryd.prog 20 #[v] w fun e w' => e = .returned (.string ⟨(ztxt z).toArray⟩) ∧ Below w.heap.size w w' := by
  obtain ⟨G, hG⟩ : ∃ G, G = ztxt z := ⟨_, rfl⟩
  rw [← hG]
  unfold ztxt at hG
  have HG := Lib.hid hG
  clear hG
  obtain ⟨s, x, ⟨sl, rfl, hm⟩, hz⟩ := h
  have hx : x = z.natAbs := by rw [← hz, natAbs_sgn]
  have hl := txt_len_bits hm.val.lt
  have HX := Lib.hid hx
  have HZ := Lib.hid hz
  clear hz hx
  obtain ⟨A, n, c, l, rfl, hp, hs, hnv, hn⟩ := hm
  obtain ⟨W, hW, hp0, hbw⟩ : ∃ W : World, W = w.alloc (.cells #[.bool s, .slice A n c] 24) ∧ Pair W w.heap.size 24 (.bool s) (.slice A n c) ∧ Below w.heap.size w W := ⟨_, rfl, Pair.new _ _ _ _, below_alloc1 _ _⟩
  have HW := Lib.hid hW
  have HNV := Lib.hid hnv
  clear hW hnv
  go_enter Tryd.func20, Tryd.ntmps20
  go_wp2_with fail
  rw [← HW.out]
  refine (rtext_any _ A n c l (hs.below hbw) (by omega)).mono ?_
  rintro e w1 ⟨rfl, hb1⟩
  rw [HNV.out]
  obtain ⟨D, hD⟩ : ∃ D : ByteArray, D = ⟨(N.txt x).toArray⟩ := ⟨_, rfl⟩
  have hDs : D.size ≤ 32 * K + 1 := by rw [hD]; simpa [ByteArray.size] using hl
  rw [← hD]
  have HD := Lib.hid hD
  replace hp0 := hp0.below hb1
  replace hbw := below_on hbw hb1
  obtain ⟨_, _, c00, c01⟩ := hp0.facts
  clear hb1 hp0 HW hD hl
  go_wp2_with fail
  refine (sign_r (z := z) (K := K) ⟨s, x, ⟨_, rfl, ⟨A, n, c, l, rfl, hp, hs.below hbw, HNV.out, hn⟩⟩, HZ.out⟩ (by omega)).mono ?_
  rintro e w2 ⟨rfl, hb2⟩
  replace hbw := below_on hbw hb2
  clear hb2 c00 c01
  obtain ⟨p, hp⟩ : ∃ p, isgn z = p := ⟨_, rfl⟩
  rw [hp]
  have hns : ¬ (9223372036854775807 < 1 + D.size) := by omega
  have hns2 : ¬ (9223372036854775807 < ByteArray.size ⟨#[45]⟩ + D.size) := hns
  rcases isgn_cases z with ⟨h1, e1⟩ | ⟨h1, e1⟩ | ⟨h1, e1⟩
  · rw [e1] at hp
    subst hp
    have H1 := Lib.hid h1
    clear h1 e1
    go_wp2_with fail
    go_ret
    refine ⟨?_, hbw⟩
    rw [HG.out, if_pos H1.out, ← HX.out]
    refine congrArg Ending.returned (congrArg Value.string ?_)
    rw [HD.out]
    apply ByteArray.ext
    simp
  all_goals
    rw [e1] at hp
    subst hp
    have H1 := Lib.hid h1
    clear h1 e1
    go_wp2_with fail
    go_ret
    exact ⟨by rw [HG.out, if_neg (by have := H1.out; omega), ← HX.out]; exact congrArg (fun d => Ending.returned (Value.string d)) HD.out, hbw⟩
set_option maxRecDepth 100000 in
set_option maxHeartbeats 1600000 in
theorem limbs_r {w : World} {v : Value} {K : Nat} {z : Int} (h : IV w v K z) (hK : K ≤ 35184372088832) :
    Calls Tryd.prog 21 #[v] w fun e w' => e = .returned (.int .i64 ((N.ofN z.natAbs).length : Nat)) ∧ Below w.heap.size w w' := by
  obtain ⟨s, x, ⟨sl, rfl, A, n, c, l, rfl, hp, hs, rfl, hn⟩, rfl⟩ := h
  rw [natAbs_sgn]
  obtain ⟨G, hG⟩ : ∃ G, G = (N.ofN (N.nv l)).length := ⟨_, rfl⟩
  rw [← hG]
  have HG := Lib.hid hG
  clear hG
  have hbw := below_alloc1 w (.cells #[.bool s, .slice A n c] 24)
  go_enter Tryd.func21, Tryd.ntmps21
  go_wp2_with fail
  refine (rtrim_any _ A n c l (hs.below hbw) (by omega)).mono ?_
  rintro e w1 ⟨g, k, c1, rfl, ho, hb1⟩
  have hk := ho.len
  have HK := Lib.hid hk
  replace hbw := below_on hbw hb1
  clear hk ho hb1 hs
  go_wp2_with fail
  go_ret
  exact ⟨by rw [HG.out, HK.out]; rfl, hbw⟩
set_option maxRecDepth 100000 in
set_option maxHeartbeats 800000 in
theorem norm_v {w : World} {s : Bool} {A : Option Addr} {n c K x : Nat} (h : Val w (.slice A n c) K x) (hK : K ≤ 35184372088832) :
    Calls Tryd.prog 22 #[.agg #[.bool s, .slice A n c]] w fun e w' => ∃ u, e = .returned u ∧ ICan w' u K (sgn s x) ∧ Below w.heap.size w w' := by
  obtain ⟨A', n', c', l, e, hs, rfl, hn⟩ := h
  injection e with e1 e2 e3
  subst e1; subst e2; subst e3
  have hb0 := below_alloc2 w (.cells #[.bool s, .slice A n c] 24) (.cells #[.bool false, .slice none 0 0] 24)
  have hp0 := (Pair.new w 24 (.bool s) (.slice A n c)).alloc (.cells #[.bool false, .slice none 0 0] 24)
  have hp1 := Pair.new (w.alloc (.cells #[.bool s, .slice A n c] 24)) 24 (.bool false) (.slice none 0 0)
  have hlen : (N.ofN (N.nv l)).length ≤ K := by have h1 := N.nv_len_le hs.lim; have h2 := hs.len; omega
  go_enter Tryd.func22, Tryd.ntmps22
  go_wp2_with fail
  refine (rtrim_any _ A n c l (hs.below hb0) (by omega)).mono ?_
  rintro e w1 ⟨g, k, d, rfl, ho, hb1⟩
  have hg := own_bag ho hlen
  have hk0 : decide (0 < k) = decide (0 < N.nv l) := by
    have hl := ho.sl.len
    rcases Nat.eq_zero_or_pos (N.nv l) with h0 | h0
    · have := ofN_len_zero hl h0
      subst this
      rw [h0]
    · have := ofN_len_pos hl h0
      rw [decide_eq_true h0]; exact decide_eq_true this
  have HK := Lib.hid hk0
  replace hp0 := hp0.below hb1
  replace hp1 := hp1.below hb1
  have hbw := below_on hb0 hb1
  obtain ⟨f0, f1, c0, c1⟩ := hp1.facts
  obtain ⟨_, _, c00, c01⟩ := hp0.facts
  simp only [World.size_alloc] at hp1 f0 f1 c0 c1
  clear hb0 hb1 hs ho hk0 hlen
  cases s
  all_goals
    go_wp2_with fail
    refine bodyPost_ret (results_cell_row rfl _ _ _ _ _ _ _ rfl (hp1.set _ _) Tryd.underlying24 rfl sizeInt) rfl ?_
    refine ⟨_, rfl, ICan.mk ?_ (by rw [natAbs_sgn]; exact hg.pair hp1 _ _), below_pair hbw (by omega) _ _⟩
    rw [sgn_neg]
    first | done | (simp; done) | (simp; exact decide_eq_decide.1 HK.out)
/-- A text's first byte is the sign. -/
theorem zneg_head (S : ByteArray) : (S.size = 0 ∧ zneg S.data.toList = false ∧ zdig S.data.toList = S.data.toList) ∨ ∃ h : 0 < S.size, (((S[0]'h).toNat : Int) == 45) = zneg S.data.toList ∧ (zneg S.data.toList = false → zdig S.data.toList = S.data.toList) ∧ (zneg S.data.toList = true → zdig S.data.toList = S.data.toList.drop 1) := by
  have hd : ∀ b, zneg S.data.toList = b → zdig S.data.toList = if b then S.data.toList.drop 1 else S.data.toList := fun b hb => by
    unfold zdig Lib.trimPrefix
    unfold zneg at hb
    rw [hb]
    cases b <;> rfl
  rcases Nat.eq_zero_or_pos S.size with h0 | h0
  · have hnil : S.data.toList = [] := List.eq_nil_of_length_eq_zero (by rw [Array.length_toList]; exact h0)
    have hn : zneg S.data.toList = false := by rw [hnil]; rfl
    exact .inl ⟨h0, hn, hd _ hn⟩
  · refine .inr ⟨h0, ?_, fun hn => hd _ hn, fun hn => hd _ hn⟩
    have h1 := byte_at h0
    cases hl : S.data.toList with
    | nil => rw [hl] at h1; cases h1
    | cons c r =>
      rw [hl] at h1
      have hc : c = S[0]'h0 := by simpa using h1
      rw [← hc]
      unfold zneg Lib.hasPrefix
      by_cases h : c = 45
      · subst h; rfl
      · have h2 : c.toNat ≠ 45 := fun e => h (UInt8.toNat_inj.1 e)
        have h3 : ((c.toNat : Int) == 45) = false := by simp; omega
        rw [h3]
        have h4 : (45 == c) = false := by simpa using fun e => h e.symm
        simp [List.isPrefixOf, h4]
end Go.Proofs.YtiidghfkdjefgaaDoor

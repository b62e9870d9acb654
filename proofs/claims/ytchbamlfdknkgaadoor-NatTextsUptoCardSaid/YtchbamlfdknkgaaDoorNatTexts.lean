/-
  The walk of riddlelaw01.NatTexts: it answers true.
-/
import Derived.Test.YtchbamlfdknkgaaDoorKnown
import Derived.Test.YtchbamlfdknkgaaDoorTxtLess
namespace Go.Proofs.YtchbamlfdknkgaaDoor
open Go.RowKit

theorem txt_len32 {x K : Nat} (h : x < 4294967296 ^ K) : (N.txt x).length ≤ 32 * K + 1 := by
  have h1 : x < 10 ^ (32 * K + 1) := by
    rw [show 4294967296 = 2 ^ 32 from rfl, ← Nat.pow_mul] at h
    have h2 : 2 ^ (32 * K) ≤ 10 ^ (32 * K) := Nat.pow_le_pow_left (by omega) _
    have h3 : 10 ^ (32 * K) ≤ 10 ^ (32 * K + 1) := Nat.pow_le_pow_right (by omega) (by omega)
    omega
  rcases Nat.eq_zero_or_pos x with h0 | h0
  · subst h0; exact Nat.le_add_left _ _
  · obtain ⟨z, hz⟩ := N.pad_txt _ x h0 h1
    have h2 := congrArg List.length hz
    rw [N.pad_length, List.length_append] at h2
    omega
/-- How two texts stand to each other says how their numbers do. -/
theorem texts_lt {a b : Nat} (h : a < b) : ((N.txt a).length < (N.txt b).length) ∨ ((N.txt a).length = (N.txt b).length ∧ Op.bytesLess (N.txt a) (N.txt b) = true ∧ Op.bytesLess (N.txt b) (N.txt a) = false ∧ (N.txt a == N.txt b) = false) := by
  have h1 := N.txt_len_le (Nat.le_of_lt h)
  rcases Nat.lt_or_ge (N.txt a).length (N.txt b).length with h2 | h2
  · exact .inl h2
  · have h3 : (N.txt a).length = (N.txt b).length := by omega
    refine .inr ⟨h3, ?_, ?_, ?_⟩
    · rw [(N.txt_less h3).1]; exact decide_eq_true h
    · rw [(N.txt_less h3.symm).1]; exact decide_eq_false (by omega)
    · have h4 : ¬ N.txt a = N.txt b := fun e => by have := (N.txt_less h3).2.1 e; omega
      simpa using h4

set_option maxRecDepth 100000 in
set_option maxHeartbeats 4000000 in
theorem walkNatTexts (w : World) (a b : Value) (Ka na Kb nb : Nat) (h_a : Val w a Ka na) (h_b : Val w b Kb nb) (hKa : Ka ≤ 1048576) (hKb : Kb ≤ 1048576) :
    Calls Tryd.prog 9 #[a, b] w fun e w' => e = .returned (.bool true) ∧ Below w.heap.size w w' := by
  have hsa := txt_len32 h_a.lt
  have hsb := txt_len32 h_b.lt
  have hw : Below w.heap.size w w := Below.refl _ _
  go_enter Tryd.func9, Tryd.ntmps9
  go_wp2_with fail
  refine (text_v h_a (by omega)).mono ?_
  rintro e w1 ⟨rfl, hb1⟩
  replace h_a := h_a.below hb1
  replace h_b := h_b.below hb1
  replace hw := hw.trans (hb1.mono hw.size)
  obtain ⟨S, hS⟩ : ∃ S : ByteArray, S = ⟨(N.txt na).toArray⟩ := ⟨_, rfl⟩
  rw [← hS]
  have HS0 := Lib.hid hS
  clear hS
  go_wp2_with fail
  refine (text_v h_b (by omega)).mono ?_
  rintro e w2 ⟨rfl, hb2⟩
  replace h_a := h_a.below hb2
  replace h_b := h_b.below hb2
  replace hw := hw.trans (hb2.mono hw.size)
  obtain ⟨T, hT⟩ : ∃ T : ByteArray, T = ⟨(N.txt nb).toArray⟩ := ⟨_, rfl⟩
  rw [← hT]
  have eS : S.data.toList = N.txt na := by rw [HS0.out]
  have eT : T.data.toList = N.txt nb := by rw [hT]
  clear HS0 hT
  have sS : S.size = (N.txt na).length := by rw [← eS]; exact Array.length_toList.symm
  have sT : T.size = (N.txt nb).length := by rw [← eT]; exact Array.length_toList.symm
  have lS : S.toList = N.txt na := by rw [ByteArray.toList_eq, eS]
  have lT : T.toList = N.txt nb := by rw [ByteArray.toList_eq, eT]
  have oS : N.okTxt S.data.toList := by rw [eS]; exact N.okTxt_txt na
  have oT : N.okTxt T.data.toList := by rw [eT]; exact N.okTxt_txt nb
  have vS : N.val S.data.toList = na := by rw [eS]; exact N.val_txt na
  have vT : N.val T.data.toList = nb := by rw [eT]; exact N.val_txt nb
  have mS : S.size ≤ 33554433 := by omega
  have mT : T.size ≤ 33554433 := by omega
  have HSS := Lib.hid sS
  have HST := Lib.hid sT
  have HLS := Lib.hid lS
  have HLT := Lib.hid lT
  clear eS eT sS sT lS lT hsa hsb
  have HVS := Lib.hid vS
  have HVT := Lib.hid vT
  clear vS vT
  have HOS := Lib.hid oS
  have HOT := Lib.hid oT
  clear oS oT
  go_wp2_with fail
  refine (parse_ok _ S (by omega) HOS.out).mono ?_
  rintro e w3 ⟨g3, n3, c3, rfl, h3, hb3⟩
  replace h_a := h_a.below hb3
  replace h_b := h_b.below hb3
  replace hw := hw.trans (hb3.mono hw.size)
  rw [HVS.out] at h3
  have hx : Bar w3 (.slice (some ⟨g3, 0, none⟩) n3 c3) n3 na := ⟨_, _, _, rfl, h3.sl, Nat.le_refl _⟩
  have hn3 : n3 ≤ 1048576 := by have := h3.len; have h5 := N.ofN_length_le h_a.lt; omega
  clear h3
  go_wp2_with fail
  refine (parse_ok _ T (by omega) HOT.out).mono ?_
  rintro e w4 ⟨g4, n4, c4, rfl, h4, hb4⟩
  replace h_a := h_a.below hb4
  replace h_b := h_b.below hb4
  replace hx := hx.below hb4
  replace hw := hw.trans (hb4.mono hw.size)
  rw [HVT.out] at h4
  have hy : Bar w4 (.slice (some ⟨g4, 0, none⟩) n4 c4) n4 nb := ⟨_, _, _, rfl, h4.sl, Nat.le_refl _⟩
  have hn4 : n4 ≤ 1048576 := by have := h4.len; have h5 := N.ofN_length_le h_b.lt; omega
  clear h4 HOS HOT HVS HVT
  go_wp2_with fail
  refine (cmp_v hx.val h_a (by omega) (by omega)).mono ?_
  rintro e w5 ⟨rfl, hb5⟩
  rw [N.cmpN_eq]
  replace h_a := h_a.below hb5
  replace h_b := h_b.below hb5
  replace hy := hy.below hb5
  replace hw := hw.trans (hb5.mono hw.size)
  clear hx
  go_wp2_with fail
  refine (cmp_v hy.val h_b (by omega) (by omega)).mono ?_
  rintro e w6 ⟨rfl, hb6⟩
  rw [N.cmpN_eq]
  replace h_a := h_a.below hb6
  replace h_b := h_b.below hb6
  replace hw := hw.trans (hb6.mono hw.size)
  clear hy
  have hss := HSS.out
  have hst := HST.out
  rcases Nat.lt_trichotomy na nb with hlt | hlt | hlt
  · rcases texts_lt hlt with h | ⟨h, i1, i2, i3⟩
    · rw [← hss, ← hst] at h
      clear hss hst HSS HST
      have t1 : decide ((S.size : Int) < (T.size : Int)) = true := decide_eq_true (by omega)
      have t2 : decide ((S.size : Int) > (T.size : Int)) = false := decide_eq_false (by omega)
      have t3 : decide ((T.size : Int) < (S.size : Int)) = false := decide_eq_false (by omega)
      have t4 : ((S.size : Int) == (T.size : Int)) = false := by
        have : ¬ (S.size : Int) = (T.size : Int) := by omega
        simpa using this
      go_wp2_with fail
      refine (cmp_v h_a h_b (by omega) (by omega)).mono ?_
      rintro e w7 ⟨rfl, hb7⟩
      rw [N.cmpN_lt hlt]
      replace hw := hw.trans (hb7.mono hw.size)
      go_wp2_with fail
      refine (known_any _).mono ?_
      rintro e w8 ⟨rfl, hb8⟩
      replace hw := hw.trans (hb8.mono hw.size)
      go_wp2_with fail
      go_ret
      exact ⟨rfl, hw⟩
    · rw [← hss, ← hst] at h
      rw [← HLS.out, ← HLT.out] at i1 i2 i3
      clear hss hst HSS HST
      have t1 : decide ((S.size : Int) < (T.size : Int)) = false := decide_eq_false (by omega)
      have t2 : decide ((S.size : Int) > (T.size : Int)) = false := decide_eq_false (by omega)
      have t3 : decide ((T.size : Int) < (S.size : Int)) = false := decide_eq_false (by omega)
      have t4 : ((S.size : Int) == (T.size : Int)) = true := by
        have : (S.size : Int) = (T.size : Int) := by omega
        simpa using this
      go_wp2_with fail
      refine (cmp_v h_a h_b (by omega) (by omega)).mono ?_
      rintro e w7 ⟨rfl, hb7⟩
      rw [N.cmpN_lt hlt]
      replace hw := hw.trans (hb7.mono hw.size)
      go_wp2_with fail
      refine (known_any _).mono ?_
      rintro e w8 ⟨rfl, hb8⟩
      replace hw := hw.trans (hb8.mono hw.size)
      go_wp2_with fail
      go_ret
      exact ⟨rfl, hw⟩
  · have h : S.size = T.size := by rw [hss, hst, hlt]
    have i1 : Op.bytesLess S.toList T.toList = false := by
      rw [HLS.out, HLT.out, hlt, (N.txt_less rfl).1]; exact decide_eq_false (by omega)
    have i3 : (S.toList == T.toList) = true := by
      rw [HLS.out, HLT.out, hlt]; exact beq_self_eq_true _
    have i5 : Op.bytesLess T.toList S.toList = false := by
      rw [HLS.out, HLT.out, hlt, (N.txt_less rfl).1]; exact decide_eq_false (by omega)
    clear hss hst HSS HST
    have t1 : decide ((S.size : Int) < (T.size : Int)) = false := decide_eq_false (by omega)
    have t2 : decide ((S.size : Int) > (T.size : Int)) = false := decide_eq_false (by omega)
    have t3 : decide ((T.size : Int) < (S.size : Int)) = false := decide_eq_false (by omega)
    have t4 : ((S.size : Int) == (T.size : Int)) = true := by
      have : (S.size : Int) = (T.size : Int) := by omega
      simpa using this
    go_wp2_with fail
    refine (cmp_v h_a h_b (by omega) (by omega)).mono ?_
    rintro e w7 ⟨rfl, hb7⟩
    rw [show N.cmpN na nb = 0 from by rw [hlt]; exact N.cmpN_eq nb]
    replace hw := hw.trans (hb7.mono hw.size)
    go_wp2_with fail
    refine (known_any _).mono ?_
    rintro e w8 ⟨rfl, hb8⟩
    replace hw := hw.trans (hb8.mono hw.size)
    go_wp2_with fail
    go_ret
    exact ⟨rfl, hw⟩
  · rcases texts_lt hlt with h | ⟨h, i1, i2, i3⟩
    · rw [← hss, ← hst] at h
      clear hss hst HSS HST
      have t1 : decide ((S.size : Int) < (T.size : Int)) = false := decide_eq_false (by omega)
      have t2 : decide ((S.size : Int) > (T.size : Int)) = true := decide_eq_true (by omega)
      have t3 : decide ((T.size : Int) < (S.size : Int)) = true := decide_eq_true (by omega)
      have t4 : ((S.size : Int) == (T.size : Int)) = false := by
        have : ¬ (S.size : Int) = (T.size : Int) := by omega
        simpa using this
      go_wp2_with fail
      refine (cmp_v h_a h_b (by omega) (by omega)).mono ?_
      rintro e w7 ⟨rfl, hb7⟩
      rw [N.cmpN_gt hlt]
      replace hw := hw.trans (hb7.mono hw.size)
      go_wp2_with fail
      refine (known_any _).mono ?_
      rintro e w8 ⟨rfl, hb8⟩
      replace hw := hw.trans (hb8.mono hw.size)
      go_wp2_with fail
      go_ret
      exact ⟨rfl, hw⟩
    · rw [← hss, ← hst] at h
      rw [← HLS.out, ← HLT.out] at i1 i2 i3
      have i4 : (S.toList == T.toList) = false := by
        have : ¬ T.toList = S.toList := by simpa using i3
        have h2 : ¬ S.toList = T.toList := fun e => this e.symm
        simpa using h2
      clear hss hst HSS HST
      have t1 : decide ((S.size : Int) < (T.size : Int)) = false := decide_eq_false (by omega)
      have t2 : decide ((S.size : Int) > (T.size : Int)) = false := decide_eq_false (by omega)
      have t3 : decide ((T.size : Int) < (S.size : Int)) = false := decide_eq_false (by omega)
      have t4 : ((S.size : Int) == (T.size : Int)) = true := by
        have : (S.size : Int) = (T.size : Int) := by omega
        simpa using this
      go_wp2_with fail
      refine (cmp_v h_a h_b (by omega) (by omega)).mono ?_
      rintro e w7 ⟨rfl, hb7⟩
      rw [N.cmpN_gt hlt]
      replace hw := hw.trans (hb7.mono hw.size)
      go_wp2_with fail
      refine (known_any _).mono ?_
      rintro e w8 ⟨rfl, hb8⟩
      replace hw := hw.trans (hb8.mono hw.size)
      go_wp2_with fail
      go_ret
      exact ⟨rfl, hw⟩
end Go.Proofs.YtchbamlfdknkgaaDoor

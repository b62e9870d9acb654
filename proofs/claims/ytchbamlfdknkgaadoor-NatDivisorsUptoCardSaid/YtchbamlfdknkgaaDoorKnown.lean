/-
  riddlelaw01.known: true.
-/
import Derived.Test.YtchbamlfdknkgaaDoorSame
namespace Go.Proofs.YtchbamlfdknkgaaDoor
open Go.RowKit

theorem bar_lit (w : World) (l : List Nat) (x : Nat) (hl : N.Lim l) (h : l = [] ∨ 4294967296 ^ (l.length - 1) ≤ N.nv l) (hx : N.nv l = x) (cs : Array Value) (hcs : cs = (lv l).toArray) :
    Bar (w.alloc (.cells cs 75)) (.slice (some ⟨w.heap.size, 0, none⟩) l.length l.length) l.length x := by
  subst hcs
  subst hx
  have e := N.eq_ofN hl h
  have h1 := Sl.lit w l hl
  refine ⟨_, _, _, rfl, ?_, Nat.le_refl _⟩
  rw [← e]; exact h1
theorem lim2 {a b : Nat} (ha : a < 4294967296) (hb : b < 4294967296) : N.Lim [a, b] := N.Lim.cons ha (N.Lim.cons hb N.Lim.nil)
theorem lim1 {a : Nat} (ha : a < 4294967296) : N.Lim [a] := N.Lim.cons ha N.Lim.nil
def knownText : ByteArray := ⟨#[52, 50, 57, 52, 57, 54, 55, 50, 57, 54, 48]⟩
theorem known_ok : N.okTxt knownText.data.toList := by
  refine ⟨by decide, ?_, by decide⟩
  have h : ∀ c ∈ knownText.data.toList, 48 ≤ c.toNat ∧ c.toNat ≤ 57 := by decide
  exact h
theorem known_val : N.val knownText.data.toList = 42949672960 := by decide
theorem known_txt : N.txt 42949672960 = knownText.data.toList := by rw [← known_val, N.txt_val known_ok]

set_option maxRecDepth 100000 in
set_option maxHeartbeats 1000000 in
theorem known_any (w : World) : Calls Tryd.prog 41 #[] w fun e w' => e = .returned (.bool true) ∧ Below w.heap.size w w' := by
  go_enter Tryd.func41, Tryd.ntmps41
  go_wp2_with fail
  refine (of_v _ 4294967296 _ rfl (by omega)).mono ?_
  rintro e w1 ⟨v1, rfl, h1, hb1⟩
  have hw := hb1
  have f1 := h1.bar.val
  go_wp2_with fail
  refine (of_v _ 10 _ rfl (by omega)).mono ?_
  rintro e w2 ⟨v2, rfl, h2, hb2⟩
  replace hw := hw.trans (hb2.mono hw.size)
  replace f1 := f1.below hb2
  have f2 := h2.bar.val
  go_wp2_with fail
  refine (mul_v f1 f2 (by omega)).mono ?_
  rintro e w3 ⟨p, rfl, h3, hb3⟩
  replace hw := hw.trans (hb3.mono hw.size)
  have fp := h3.bar
  clear f1 f2 h1 h2 h3
  go_wp2_with fail
  refine (of_v _ 3 _ rfl (by omega)).mono ?_
  rintro e w4 ⟨v4, rfl, h4, hb4⟩
  replace hw := hw.trans (hb4.mono hw.size)
  replace fp := fp.below hb4
  have f4 := h4.bar.val
  go_wp2_with fail
  refine (dm_v fp.val f4 (by omega) (by omega) (by omega)).mono ?_
  rintro e w5 ⟨q, r, rfl, h5, h6, _, hb5⟩
  replace hw := hw.trans (hb5.mono hw.size)
  replace fp := fp.below hb5
  have fq := h5.bar
  have fr := h6.bar
  clear f4 h4 h5 h6
  go_wp2_with fail
  refine (parse_ok _ knownText (by decide) known_ok).mono ?_
  rintro e w6 ⟨g6, n6, c6, rfl, h7, hb6⟩
  replace hw := hw.trans (hb6.mono hw.size)
  replace fp := fp.below hb6
  replace fq := fq.below hb6
  replace fr := fr.below hb6
  rw [known_val] at h7
  have fn : Bar w6 (.slice (some ⟨g6, 0, none⟩) n6 c6) n6 42949672960 := ⟨_, _, _, rfl, h7.sl, Nat.le_refl _⟩
  clear h7
  have a1 : Below w6.heap.size w6 (w6.alloc (.cells #[.int .u32 0, .int .u32 10] 75)) := (Below.refl _ _).alloc (Nat.le_refl _) _
  have b1 := bar_lit w6 [0, 10] 42949672960 (lim2 (by omega) (by omega)) (.inr (by decide)) rfl #[.int .u32 0, .int .u32 10] rfl
  go_wp2_with fail
  refine (same_v (fp.below a1) b1 (by omega) rfl).mono ?_
  rintro e w7 ⟨rfl, hb7⟩
  have c1 := a1.trans (hb7.mono a1.size)
  replace hw := hw.trans (c1.mono hw.size)
  replace fp := fp.below c1
  replace fq := fq.below c1
  replace fr := fr.below c1
  replace fn := fn.below c1
  clear a1 b1
  go_wp2_with fail
  refine (text_v fp.val (by omega)).mono ?_
  rintro e w8 ⟨rfl, hb8⟩
  replace hw := hw.trans (hb8.mono hw.size)
  replace fp := fp.below hb8
  replace fq := fq.below hb8
  replace fr := fr.below hb8
  replace fn := fn.below hb8
  rw [show N.txt (4294967296 * 10) = knownText.data.toList from known_txt]
  have hk : (⟨knownText.data.toList.toArray⟩ : ByteArray) = knownText := rfl
  rw [hk]
  have hk2 : knownText.toList = [52, 50, 57, 52, 57, 54, 55, 50, 57, 54, 48] := by rw [ByteArray.toList_eq]; rfl
  clear hk
  have a2 : Below w8.heap.size w8 (w8.alloc (.cells #[.int .u32 1431655765, .int .u32 3] 75)) := (Below.refl _ _).alloc (Nat.le_refl _) _
  have b2 := bar_lit w8 [1431655765, 3] 14316557653 (lim2 (by omega) (by omega)) (.inr (by decide)) rfl #[.int .u32 1431655765, .int .u32 3] rfl
  go_wp2_with fail
  refine (same_v (fq.below a2) b2 (by omega) rfl).mono ?_
  rintro e w9 ⟨rfl, hb9⟩
  have c2 := a2.trans (hb9.mono a2.size)
  replace hw := hw.trans (c2.mono hw.size)
  replace fp := fp.below c2
  replace fr := fr.below c2
  replace fn := fn.below c2
  clear a2 b2 fq
  have a3 : Below w9.heap.size w9 (w9.alloc (.cells #[.int .u32 1] 75)) := (Below.refl _ _).alloc (Nat.le_refl _) _
  have b3 := bar_lit w9 [1] 1 (lim1 (by omega)) (.inr (by decide)) rfl #[.int .u32 1] rfl
  go_wp2_with fail
  refine (same_v (fr.below a3) b3 (by omega) rfl).mono ?_
  rintro e w10 ⟨rfl, hb10⟩
  have c3 := a3.trans (hb10.mono a3.size)
  replace hw := hw.trans (c3.mono hw.size)
  replace fp := fp.below c3
  replace fn := fn.below c3
  clear a3 b3 fr
  have hn11 : n6 ≤ 9223372036854775807 := by
    obtain ⟨A, n, c, e, hs, hn⟩ := fn
    injection e with _ e2 _
    have := hs.len
    have h2 := N.ofN_length_le (n := 42949672960) (k := 2) (by omega)
    omega
  go_wp2_with fail
  refine (same_v fn fp hn11 rfl).mono ?_
  rintro e w11 ⟨rfl, hb11⟩
  replace hw := hw.trans (hb11.mono hw.size)
  go_wp2_with fail
  go_ret
  exact ⟨rfl, hw⟩
end Go.Proofs.YtchbamlfdknkgaaDoor

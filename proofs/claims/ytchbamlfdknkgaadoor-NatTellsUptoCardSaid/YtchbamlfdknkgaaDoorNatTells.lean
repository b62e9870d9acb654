/-
  The walk of riddlelaw01.NatTells: it answers true.
-/
import Derived.Test.YtchbamlfdknkgaaDoorKnown
import Derived.Test.YtchbamlfdknkgaaDoorVars
import Derived.Test.YtchbamlfdknkgaaDoorRBits
import Derived.Test.YtchbamlfdknkgaaDoorRParse
import Derived.Test.YtchbamlfdknkgaaDoorRText
namespace Go.Proofs.YtchbamlfdknkgaaDoor
open Go.RowKit

theorem is_none {w : World} {base g n c x m d lc : Nat} {B : Option Addr} (ho : Own w base g n c (N.ofN x)) (hw : Sl w B m d (N.ofN x)) (hn : n ≤ 35184372088832) :
    Calls Tryd.prog 38 #[.slice (some ⟨g, 0, none⟩) n c, .slice B m d, .slice none 0 lc] w fun e w' => e = .returned (.bool true) ∧ w.grownBy w' (some g) :=
  is_any w base g n c x B m d none 0 0 lc ho hw hn (by omega) (fun h => absurd h (by omega)) (fun h => absurd h (by omega)) (fun i hi => absurd hi (by omega)) (by omega)
theorem rtext_v {w : World} {a : Value} {K x : Nat} (ha : Val w a K x) (hK : K ≤ 34359738368) :
    Calls Tryd.prog 50 #[a] w fun e w' => e = .returned (.string ⟨(N.txt x).toArray⟩) ∧ Below w.heap.size w w' := by
  obtain ⟨A, n, c, l, rfl, hs, rfl, hn⟩ := ha
  exact rtext_any w A n c l hs (by omega)

set_option maxRecDepth 100000 in
set_option maxHeartbeats 4000000 in
theorem walkNatTells (w : World) (a : Value) (Ka na : Nat) (h_a : Val w a Ka na) (hKa : Ka ≤ 1048576) (n : Nat) (hn : n < 18446744073709551616) (S : ByteArray) (hS : S.size ≤ 1048576) :
    Calls Tryd.prog 10 #[a, .int .u64 n, .string S] w fun e w' => e = .returned (.bool true) ∧ Below w.heap.size w w' := by
  have hw : Below w.heap.size w w := Below.refl _ _
  go_enter Tryd.func10, Tryd.ntmps10
  go_wp2_with fail
  refine (lend_v h_a (by omega)).mono ?_
  rintro e w1 ⟨gx, ux, nx, lx, rfl, hx, hb1⟩
  replace h_a := h_a.below hb1
  replace hw := hw.trans (hb1.mono hw.size)
  go_wp2_with fail
  obtain ⟨W1, hW1, hvx, hc1⟩ := var_new w1 53 gx ux nx
  rw [← hW1]
  clear hW1
  obtain ⟨vx, hvxe⟩ : ∃ vx, w1.heap.size = vx := ⟨_, rfl⟩
  rw [hvxe] at hvx ⊢
  replace h_a := h_a.below hc1
  replace hx := hx.below hc1
  replace hw := below_on hw hc1
  have hnx := hx.le
  clear hvxe hc1 hb1
  by_cases hok : N.okTxt S.data.toList
  case' pos =>
    have HOK := Lib.hid hok
    clear hok
    refine (parse_ok W1 S (by omega) HOK.out).mono ?_
    rintro e w2 ⟨g2, n2, c2, rfl, ho2, hb2⟩
    have hz2 : W1.heap.size ≤ g2 := ho2.base_le.1
    have hn2 : n2 ≤ S.size := by
      have h1 := ho2.len
      have h2 := N.val_lt (l := S.data.toList) HOK.out.2.1
      have h3 : (10 : Nat) ^ S.data.toList.length ≤ 4294967296 ^ S.data.toList.length := Nat.pow_le_pow_left (by omega) _
      have h4 := N.ofN_length_le (Nat.lt_of_lt_of_le h2 h3)
      rw [size_list] at h4
      omega
    go_wp2_with fail
    refine (rparse_ok w2 S (by omega) HOK.out).mono ?_
    rintro e w3 ⟨v3, rfl, ⟨A3, m3, d3, rfl, hs3, hn3⟩, hb3⟩
    go_wp2_with fail
    refine (is_none (ho2.below hb3) hs3 (by omega)).mono ?_
    rintro e w4 ⟨rfl, hg4⟩
    have hS := below_gb (below_on hb2 hb3) hg4 hz2
    clear ho2 hb2 hs3 hb3 hg4 HOK
  case' neg =>
    have HOK := Lib.hid hok
    clear hok
    refine (parse_bad W1 S (by omega) HOK.out).mono ?_
    rintro e w2 ⟨rfl, hb2⟩
    go_wp2_with fail
    refine (rparse_bad w2 S (by omega) HOK.out).mono ?_
    rintro e w4 ⟨rfl, rfl⟩
    have hS := hb2
    clear hb2 HOK
  all_goals
    go_wp2_with fail
    refine (of_v _ n _ rfl hn).mono ?_
    rintro e w5 ⟨v5, rfl, ⟨g5, n5, c5, rfl, ho5, hn5⟩, hb5⟩
    have hz5 : W1.heap.size ≤ g5 := Nat.le_trans hS.size ho5.base_le.1
    replace hS := below_on hS hb5
    go_wp2_with fail
    refine (rof_v _ n hn).mono ?_
    rintro e w6 ⟨v6, rfl, ⟨g6, n6, c6, rfl, ho6, hn6⟩, hb6⟩
    replace hS := below_on hS hb6
    go_wp2_with fail
    refine (is_none (ho5.below hb6) ho6.sl (by omega)).mono ?_
    rintro e w7 ⟨rfl, hg7⟩
    replace hS := below_gb hS hg7 hz5
    clear ho5 hb5 ho6 hb6 hg7
    obtain ⟨q0, q1, q2⟩ := hvx.below hS
    go_wp2_with fail
    refine (list_any _ gx nx _ (by omega)).mono ?_
    rintro e w8 ⟨rfl, hb8⟩
    replace hS := below_on hS hb8
    go_wp2_with fail
    refine (bits_v (hx.below hS).val (by omega)).mono ?_
    rintro e w9 ⟨rfl, rfl⟩
    go_wp2_with fail
    refine (rbits_v (h_a.below hS) (by omega)).mono ?_
    rintro e w10 ⟨rfl, hb10⟩
    replace hS := below_on hS hb10
    clear q0 q1 q2 hb8 hb10
    obtain ⟨q0, q1, q2⟩ := hvx.below hS
    go_wp2_with fail
    refine (list_any _ gx nx _ (by omega)).mono ?_
    rintro e w11 ⟨rfl, hb11⟩
    replace hS := below_on hS hb11
    go_wp2_with fail
    refine (text_v (hx.below hS).val (by omega)).mono ?_
    rintro e w12 ⟨rfl, hb12⟩
    replace hS := below_on hS hb12
    go_wp2_with fail
    refine (rtext_v (h_a.below hS) (by omega)).mono ?_
    rintro e w13 ⟨rfl, hb13⟩
    replace hS := below_on hS hb13
    clear q0 q1 q2 hb11 hb12 hb13
    obtain ⟨q0, q1, q2⟩ := hvx.below hS
    go_wp2_with fail
    refine (same_any _ _ _ _ _ _ _ (hx.below hS).full (hx.below hS).want (by omega)).mono ?_
    rintro e w14 ⟨rfl, hb14⟩
    replace hS := below_on hS hb14
    clear q0 q1 q2 hb14
    go_wp2_with fail
    refine (known_any _).mono ?_
    rintro e w15 ⟨rfl, hb15⟩
    go_wp2_with fail
    go_ret
    exact ⟨rfl, below_on hw (below_on hS hb15)⟩
end Go.Proofs.YtchbamlfdknkgaaDoor

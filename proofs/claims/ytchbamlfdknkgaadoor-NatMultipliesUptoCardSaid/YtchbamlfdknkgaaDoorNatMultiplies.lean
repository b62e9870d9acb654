/-
  The walk of riddlelaw01.NatMultiplies: it answers true.
-/
import Derived.Test.YtchbamlfdknkgaaDoorKnown
import Derived.Test.YtchbamlfdknkgaaDoorRVal
import Derived.Test.YtchbamlfdknkgaaDoorVars2
import Derived.Deep.Cut
namespace Go.Proofs.YtchbamlfdknkgaaDoor
open Go.RowKit

set_option maxRecDepth 100000 in
set_option maxHeartbeats 40000000 in
theorem walkNatMultiplies (w : World) (a b : Value) (Ka na Kb nb : Nat) (h_a : Val w a Ka na) (h_b : Val w b Kb nb) (hKa : Ka ≤ 1048576) (hKb : Kb ≤ 1048576) :
    Calls Tryd.prog 8 #[a, b] w fun e w' => e = .returned (.bool true) ∧ Below w.heap.size w w' := by
  have hw : Below w.heap.size w w := Below.refl _ _
  go_enter Tryd.func8, Tryd.ntmps8
  go_wp2_with fail
  refine (lend_v h_a (by omega)).mono ?_
  rintro e w1 ⟨gx, ux, nx, lx, rfl, hx, hb1⟩
  replace h_a := h_a.below hb1
  replace h_b := h_b.below hb1
  replace hw := hw.trans (hb1.mono hw.size)
  go_wp2_with fail
  obtain ⟨W1, hW1, hvx, hc1⟩ := var_new w1 53 gx ux nx
  rw [← hW1]
  clear hW1
  obtain ⟨vx, hvxe⟩ : ∃ vx, w1.heap.size = vx := ⟨_, rfl⟩
  rw [hvxe] at hvx ⊢
  replace h_a := h_a.below hc1
  replace h_b := h_b.below hc1
  replace hx := hx.below hc1
  replace hw := below_on hw hc1
  clear hvxe hc1 hb1
  refine (lend_v h_b (by omega)).mono ?_
  rintro e w2 ⟨gy, uy, ny, ly, rfl, hy, hb2⟩
  replace h_a := h_a.below hb2
  replace h_b := h_b.below hb2
  replace hx := hx.below hb2
  replace hvx := hvx.below hb2
  replace hw := below_on hw hb2
  go_wp2_with fail
  obtain ⟨W2, hW2, hvy, hc2⟩ := var_new w2 53 gy uy ny
  rw [← hW2]
  clear hW2
  obtain ⟨vy, hvye⟩ : ∃ vy, w2.heap.size = vy := ⟨_, rfl⟩
  rw [hvye] at hvy ⊢
  replace h_a := h_a.below hc2
  replace h_b := h_b.below hc2
  replace hx := hx.below hc2
  replace hy := hy.below hc2
  replace hvx := hvx.below hc2
  replace hw := below_on hw hc2
  clear hvye hc2 hb2
  have hnx := hx.le
  have hny := hy.le
  have hS0 : ∀ w', Below W2.heap.size W2 w' → ((w'.cell? ⟨vx, 0, none⟩ = some (.slice (some ⟨gx, 0, none⟩) (nx + 4) (nx + 4)) ∧ w'.cell? ⟨vx, 1, none⟩ = some (.int .i64 nx) ∧ w'.cell? ⟨vx, 2, none⟩ = some (.slice (some ⟨ux, 0, none⟩) (nx + 4) (nx + 4))) ∧ (w'.cell? ⟨vy, 0, none⟩ = some (.slice (some ⟨gy, 0, none⟩) (ny + 4) (ny + 4)) ∧ w'.cell? ⟨vy, 1, none⟩ = some (.int .i64 ny) ∧ w'.cell? ⟨vy, 2, none⟩ = some (.slice (some ⟨uy, 0, none⟩) (ny + 4) (ny + 4)))) ∧ Below W2.heap.size W2 w' := fun w' hb => ⟨⟨hvx.below hb, hvy.below hb⟩, hb⟩
  have HS0 := Lib.hid hS0
  clear hS0
  have hlx := hx.lt
  have hly := hy.lt
  go_wp2_with fail
  go_region_held3 (fun w' => ((w'.cell? ⟨vx, 0, none⟩ = some (.slice (some ⟨gx, 0, none⟩) (nx + 4) (nx + 4)) ∧ w'.cell? ⟨vx, 1, none⟩ = some (.int .i64 nx) ∧ w'.cell? ⟨vx, 2, none⟩ = some (.slice (some ⟨ux, 0, none⟩) (nx + 4) (nx + 4))) ∧ (w'.cell? ⟨vy, 0, none⟩ = some (.slice (some ⟨gy, 0, none⟩) (ny + 4) (ny + 4)) ∧ w'.cell? ⟨vy, 1, none⟩ = some (.int .i64 ny) ∧ w'.cell? ⟨vy, 2, none⟩ = some (.slice (some ⟨uy, 0, none⟩) (ny + 4) (ny + 4)))) ∧ Below W2.heap.size W2 w')
    (first | assumption | exact HS0.out _ (by assumption) | exact HS0.out _ (Below.drew (by assumption)) | exact HS0.out _ (Below.refl _ _).drew | exact HS0.out _ (below_on (s_below (by assumption)) (below_alloc1 _ _)))
    (first
      | (go_at_call_of 35 gx; (try clear hS); refine (list_any _ gx nx _ (by omega)).mono ?_; rintro e wn ⟨rfl, hb⟩; have hS := below_on (s_below (by assumption)) hb; (first | have hR := Arr2.below (Arr2.new _ gx ux nx gy uy ny) hb | have hR := Arr2.below (Arr2.new _ gx ux nx gy uy ny).drew hb | replace hR := Arr2.below hR hb | skip); (first | have hQ := Arr1.below (Arr1.new _ gx ux nx) hb | replace hQ := Arr1.below hQ hb | skip); clear hb)
      | (go_at_call_of 35 gy; (try clear hS); refine (list_any _ gy ny _ (by omega)).mono ?_; rintro e wn ⟨rfl, hb⟩; have hS := below_on (s_below (by assumption)) hb; (first | have hR := Arr2.below (Arr2.new _ gx ux nx gy uy ny) hb | have hR := Arr2.below (Arr2.new _ gx ux nx gy uy ny).drew hb | replace hR := Arr2.below hR hb | skip); (first | have hQ := Arr1.below (Arr1.new _ gx ux nx) hb | replace hQ := Arr1.below hQ hb | skip); clear hb)
      | (go_at_call 34; refine (dm_u (hx.below (s_below (by assumption))).val (hy.below (s_below (by assumption))).val (by omega) (by omega)).mono ?_; rintro e w6 ⟨q6, r6, z6, rfl, hor6, hb⟩; have hz6 := size_on (s_below (by assumption)) hb; have hS6 := below_on (s_below (by assumption)) hb; have hS := hS6; clear hb))
  go_upto_if 28 with (go_at_call 36; refine (rtrim_v (h_b.below hS6) (by omega)).mono ?_; rintro e w7 ⟨v7, rfl, ⟨A, m, d, rfl, hs, hm⟩, hb7⟩; have hS7 := below_on hS6 hb7; clear hS; have hml := hs.len)
  go_cut [] from 7 (fun wc => Below W2.heap.size W2 wc)
  case first =>
    rcases hor6 with ⟨hz, rfl, rfl, rfl⟩ | ⟨hz, rfl, ⟨g6, n6, c6, rfl, ho6, hn6⟩, ⟨h6, p6, d6, rfl, hp6, hq6⟩, hgt⟩
    · have hm0 := ofN_len_zero hml hz
      subst hm0
      clear hs hml
      go_wp2_with fail
      go_meet
      case rel => exact hS7
    have hgh : g6 < h6 := hgt _ _ _ _ _ _ rfl rfl
    clear hgt
    have hm0 := ofN_len_pos hml hz
    have tm : ((m : Int) == 0) = false := by
      have : ¬ (m : Int) = 0 := by omega
      simpa using this
    replace ho6 := ho6.below hb7
    replace hp6 := hp6.below hb7
    clear hs hml
    go_wp2_with fail
    refine (rdm_f (h_a.below hS7) (h_b.below hS7) (by omega) (by omega) hz).mono ?_
    rintro e w8 ⟨s, t, rfl, ⟨g1, m1, d1, rfl, hs1, hm1⟩, ⟨g2, m2, d2, rfl, hs2, hm2⟩, hb8⟩
    have hS8 := below_on hS7 hb8
    have hg6 : g6 ≠ g2 := by have := ho6.base_le; have := hs2.base_le; omega
    have hB6 : W2.heap.size ≤ g6 := by have := ho6.base_le; omega
    have hB5 : W2.heap.size ≤ h6 := by omega
    replace ho6 := ho6.below hb8
    replace hp6 := hp6.below hb8
    obtain ⟨qx0, qx1, qx2⟩ := hvx.below hS8
    obtain ⟨qy0, qy1, qy2⟩ := hvy.below hS8
    have hal := below_alloc1 w8 (.cells #[.slice (some ⟨gx, 0, none⟩) (nx + 4) (nx + 4), .int .i64 nx, .slice (some ⟨ux, 0, none⟩) (nx + 4) (nx + 4), .slice (some ⟨gy, 0, none⟩) (ny + 4) (ny + 4), .int .i64 ny, .slice (some ⟨uy, 0, none⟩) (ny + 4) (ny + 4)] 53)
    have hSa := below_on hS8 hal
    clear hz6 hS6 hb7 hS7 hb8
    go_wp2_with fail
    refine (is_two (ho6.below hal) (hs1.below hal).sl (by omega) (Arr2.new _ gx ux nx gy uy ny) (hx.below hSa) (hy.below hSa) (by omega) (by omega) hB6 hlx hly (by omega)).mono ?_
    rintro e w9 ⟨rfl, hg9⟩
    have hS9 := below_gb hSa hg9 hB6
    replace hp6 := (hp6.below hal).grown hg9 (by omega)
    replace hs2 := (hs2.below hal).grown hg9 (fun e => hg6 e.symm)
    clear ho6 hs1 hg9 hSa hal hS8 qx0 qx1 qx2 qy0 qy1 qy2
    obtain ⟨qx0, qx1, qx2⟩ := hvx.below hS9
    obtain ⟨qy0, qy1, qy2⟩ := hvy.below hS9
    have hal := below_alloc1 w9 (.cells #[.slice (some ⟨gx, 0, none⟩) (nx + 4) (nx + 4), .int .i64 nx, .slice (some ⟨ux, 0, none⟩) (nx + 4) (nx + 4), .slice (some ⟨gy, 0, none⟩) (ny + 4) (ny + 4), .int .i64 ny, .slice (some ⟨uy, 0, none⟩) (ny + 4) (ny + 4)] 53)
    have hSa := below_on hS9 hal
    go_wp2_with fail
    refine (is_two (hp6.below hal) (hs2.below hal).sl (by omega) (Arr2.new _ gx ux nx gy uy ny) (hx.below hSa) (hy.below hSa) (by omega) (by omega) hB5 hlx hly (by omega)).mono ?_
    rintro e w10 ⟨rfl, hg10⟩
    have hS10 := below_gb hSa hg10 hB5
    clear hp6 hs2 hg10 hSa hal hS9 qx0 qx1 qx2 qy0 qy1 qy2
    go_wp2_with fail
    go_meet
    case rel => exact hS10
  case rest =>
    clear hor6 hz6 hS6 hb7 hS7 hs hm hml
    go_wp2_with fail
    go_region_held3 (fun w' => ((w'.cell? ⟨vx, 0, none⟩ = some (.slice (some ⟨gx, 0, none⟩) (nx + 4) (nx + 4)) ∧ w'.cell? ⟨vx, 1, none⟩ = some (.int .i64 nx) ∧ w'.cell? ⟨vx, 2, none⟩ = some (.slice (some ⟨ux, 0, none⟩) (nx + 4) (nx + 4))) ∧ (w'.cell? ⟨vy, 0, none⟩ = some (.slice (some ⟨gy, 0, none⟩) (ny + 4) (ny + 4)) ∧ w'.cell? ⟨vy, 1, none⟩ = some (.int .i64 ny) ∧ w'.cell? ⟨vy, 2, none⟩ = some (.slice (some ⟨uy, 0, none⟩) (ny + 4) (ny + 4)))) ∧ Below W2.heap.size W2 w')
      (first | assumption | exact HS0.out _ (by assumption) | exact HS0.out _ (Below.drew (by assumption)) | exact HS0.out _ (Below.refl _ _).drew | exact HS0.out _ (below_on (s_below (by assumption)) (below_alloc1 _ _)))
      (first
        | (go_at_call_of 35 gx; (try clear hS); refine (list_any _ gx nx _ (by omega)).mono ?_; rintro e wn ⟨rfl, hb⟩; have hS := below_on (s_below (by assumption)) hb; (first | have hR := Arr2.below (Arr2.new _ gx ux nx gy uy ny) hb | have hR := Arr2.below (Arr2.new _ gx ux nx gy uy ny).drew hb | replace hR := Arr2.below hR hb | skip); (first | have hQ := Arr1.below (Arr1.new _ gx ux nx) hb | replace hQ := Arr1.below hQ hb | skip); clear hb)
        | (go_at_call_of 35 gy; (try clear hS); refine (list_any _ gy ny _ (by omega)).mono ?_; rintro e wn ⟨rfl, hb⟩; have hS := below_on (s_below (by assumption)) hb; (first | have hR := Arr2.below (Arr2.new _ gx ux nx gy uy ny) hb | have hR := Arr2.below (Arr2.new _ gx ux nx gy uy ny).drew hb | replace hR := Arr2.below hR hb | skip); (first | have hQ := Arr1.below (Arr1.new _ gx ux nx) hb | replace hQ := Arr1.below hQ hb | skip); clear hb)
        | (go_at_call_of 39 gy; (try clear hS); refine (mul_v (hx.below (s_below (by assumption))).val (hy.below (s_below (by assumption))).val (by omega)).mono ?_; rintro e w6 ⟨v6, rfl, ⟨g6, n6, c6, rfl, ho6, hn6⟩, hb⟩; have hz6 := size_on (s_below (by assumption)) hb; have hS := below_on (s_below (by assumption)) hb; (first | have hR := Arr2.below (Arr2.new _ gx ux nx gy uy ny) hb | have hR := Arr2.below (Arr2.new _ gx ux nx gy uy ny).drew hb | replace hR := Arr2.below hR hb | skip); (first | have hQ := Arr1.below (Arr1.new _ gx ux nx) hb | replace hQ := Arr1.below hQ hb | skip); clear hb)
        | (go_at_call 39; (try clear hS); refine (mul_v (hx.below (s_below (by assumption))).val (hx.below (s_below (by assumption))).val (by omega)).mono ?_; rintro e w6 ⟨v6, rfl, ⟨g6, n6, c6, rfl, ho6, hn6⟩, hb⟩; have hz6 := size_on (s_below (by assumption)) hb; have hS := below_on (s_below (by assumption)) hb; (first | have hR := Arr2.below (Arr2.new _ gx ux nx gy uy ny) hb | have hR := Arr2.below (Arr2.new _ gx ux nx gy uy ny).drew hb | replace hR := Arr2.below hR hb | skip); (first | have hQ := Arr1.below (Arr1.new _ gx ux nx) hb | replace hQ := Arr1.below hQ hb | skip); clear hb)
        | (go_at_call_of 40 b; (try clear hS); refine (rmul_v (h_a.below (s_below (by assumption))) (h_b.below (s_below (by assumption))) (by omega) (by omega)).mono ?_; rintro e w7 ⟨v7, rfl, ⟨A7, m7, d7, rfl, hs7, hn7⟩, hb⟩; have hS := below_on (s_below (by assumption)) hb; have hA7 : Below w6.heap.size w6 w7 := (by first | exact hb | exact below_on (below_alloc1 _ _) hb | exact below_on (below_drew1 _) hb | exact below_on (below_on (below_drew1 _) (below_alloc1 _ _)) hb); replace ho6 := ho6.below hA7; clear hA7; (first | have hR := Arr2.below (Arr2.new _ gx ux nx gy uy ny) hb | have hR := Arr2.below (Arr2.new _ gx ux nx gy uy ny).drew hb | replace hR := Arr2.below hR hb | skip); (first | have hQ := Arr1.below (Arr1.new _ gx ux nx) hb | replace hQ := Arr1.below hQ hb | skip); clear hb)
        | (go_at_call 40; (try clear hS); refine (rmul_v (h_a.below (s_below (by assumption))) (h_a.below (s_below (by assumption))) (by omega) (by omega)).mono ?_; rintro e w7 ⟨v7, rfl, ⟨A7, m7, d7, rfl, hs7, hn7⟩, hb⟩; have hS := below_on (s_below (by assumption)) hb; have hA7 : Below w6.heap.size w6 w7 := (by first | exact hb | exact below_on (below_alloc1 _ _) hb | exact below_on (below_drew1 _) hb | exact below_on (below_on (below_drew1 _) (below_alloc1 _ _)) hb); replace ho6 := ho6.below hA7; clear hA7; (first | have hR := Arr2.below (Arr2.new _ gx ux nx gy uy ny) hb | have hR := Arr2.below (Arr2.new _ gx ux nx gy uy ny).drew hb | replace hR := Arr2.below hR hb | skip); (first | have hQ := Arr1.below (Arr1.new _ gx ux nx) hb | replace hQ := Arr1.below hQ hb | skip); clear hb)
        | (go_at_call_of 38 (2 : Nat); (try clear hS); refine (is_two (by first | exact ho6 | exact ho6.below (below_alloc1 _ _)) (by first | exact hs7 | exact hs7.below (below_alloc1 _ _)) (by omega) (by first | exact Arr2.new _ gx ux nx gy uy ny | exact hR) (hx.below (s_below (by assumption))) (hy.below (s_below (by assumption))) (by omega) (by omega) (by have := ho6.base_le; omega) hlx hly (by omega)).mono ?_; rintro e wn ⟨rfl, hg⟩; have hS := below_gb (s_below (by assumption)) hg (by have := ho6.base_le; omega); clear hg ho6 hs7 hz6; (try clear hR); (try clear hQ))
        | (go_at_call_of 38 (1 : Nat); (try clear hS); refine (is_one (by first | exact ho6 | exact ho6.below (below_alloc1 _ _)) (by first | exact hs7 | exact hs7.below (below_alloc1 _ _)) (by omega) (by first | exact Arr1.new _ gx ux nx | exact hQ) (hx.below (s_below (by assumption))) (by omega) (by have := ho6.base_le; omega) hlx (by omega)).mono ?_; rintro e wn ⟨rfl, hg⟩; have hS := below_gb (s_below (by assumption)) hg (by have := ho6.base_le; omega); clear hg ho6 hs7 hz6; (try clear hR); (try clear hQ))
        | (go_at_call 41; (try clear hS); refine (known_any _).mono ?_; rintro e wn ⟨rfl, hb⟩; have hS := below_on (s_below (by assumption)) hb; clear hb))
    all_goals
      go_wp2_with fail
      go_ret
      exact ⟨rfl, below_on hw hS⟩
end Go.Proofs.YtchbamlfdknkgaaDoor

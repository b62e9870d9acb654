/-
  The walk of riddlelaw01.NatMultiplies: it answers true.
-/
import Derived.Test.YtchbamlfdknkgaaDoorKnown
import Derived.Test.YtchbamlfdknkgaaDoorRVal
import Derived.Test.YtchbamlfdknkgaaDoorVars2
import Derived.Test.YtchbamlfdknkgaaDoorHand
import Derived.Deep.Cut
namespace Go.Proofs.YtchbamlfdknkgaaDoor
open Go.RowKit

set_option maxRecDepth 100000 in
set_option maxHeartbeats 40000000 in
theorem walkNatMultiplies (w : World) (a b : Value) (Ka na Kb nb : Nat) (h_a : Val w a Ka na) (h_b : Val w b Kb nb) (hKa : Ka ≤ 1048576) (hKb : Kb ≤ 1048576) :
    Calls Tryd.prog 8 #[a, b] w fun e w' => e = .returned (.bool true) ∧ Below w.heap.size w w' := by
  have hw : Below w.heap.size w w := Below.refl _ _
  go_enter Tryd.func8, Tryd.ntmps8
  go_wp2_with fail
  refine (lend_v h_a (by omega)).mono ?_
  rintro e w1 ⟨gx, ux, nx, lx, rfl, hx, hb1⟩
  replace h_a := h_a.below hb1
  replace h_b := h_b.below hb1
  replace hw := hw.trans (hb1.mono hw.size)
  go_wp2_with fail
  obtain ⟨W1, hW1, hvx, hc1⟩ := var_new w1 53 gx ux nx
  rw [← hW1]
  clear hW1
  obtain ⟨vx, hvxe⟩ : ∃ vx, w1.heap.size = vx := ⟨_, rfl⟩
  rw [hvxe] at hvx ⊢
  replace h_a := h_a.below hc1
  replace h_b := h_b.below hc1
  replace hx := hx.below hc1
  replace hw := below_on hw hc1
  clear hvxe hc1 hb1
  refine (lend_v h_b (by omega)).mono ?_
  rintro e w2 ⟨gy, uy, ny, ly, rfl, hy, hb2⟩
  replace h_a := h_a.below hb2
  replace h_b := h_b.below hb2
  replace hx := hx.below hb2
  replace hvx := hvx.below hb2
  replace hw := below_on hw hb2
  go_wp2_with fail
  obtain ⟨W2, hW2, hvy, hc2⟩ := var_new w2 53 gy uy ny
  rw [← hW2]
  clear hW2
  obtain ⟨vy, hvye⟩ : ∃ vy, w2.heap.size = vy := ⟨_, rfl⟩
  rw [hvye] at hvy ⊢
  replace h_a := h_a.below hc2
  replace h_b := h_b.below hc2
  replace hx := hx.below hc2
  replace hy := hy.below hc2
  replace hvx := hvx.below hc2
  replace hw := below_on hw hc2
  clear hvye hc2 hb2
  have hnx := hx.le
  have hny := hy.le
  have hS0 : ∀ w', Below W2.heap.size W2 w' → ((w'.cell? ⟨vx, 0, none⟩ = some (.slice (some ⟨gx, 0, none⟩) (nx + 4) (nx + 4)) ∧ w'.cell? ⟨vx, 1, none⟩ = some (.int .i64 nx) ∧ w'.cell? ⟨vx, 2, none⟩ = some (.slice (some ⟨ux, 0, none⟩) (nx + 4) (nx + 4))) ∧ (w'.cell? ⟨vy, 0, none⟩ = some (.slice (some ⟨gy, 0, none⟩) (ny + 4) (ny + 4)) ∧ w'.cell? ⟨vy, 1, none⟩ = some (.int .i64 ny) ∧ w'.cell? ⟨vy, 2, none⟩ = some (.slice (some ⟨uy, 0, none⟩) (ny + 4) (ny + 4)))) ∧ Below W2.heap.size W2 w' := fun w' hb => ⟨⟨hvx.below hb, hvy.below hb⟩, hb⟩
  have HS0 := Lib.hid hS0
  clear hS0
  have hlx := hx.lt
  have hly := hy.lt
  go_wp2_with fail
  go_region_held3 (fun w' => ((w'.cell? ⟨vx, 0, none⟩ = some (.slice (some ⟨gx, 0, none⟩) (nx + 4) (nx + 4)) ∧ w'.cell? ⟨vx, 1, none⟩ = some (.int .i64 nx) ∧ w'.cell? ⟨vx, 2, none⟩ = some (.slice (some ⟨ux, 0, none⟩) (nx + 4) (nx + 4))) ∧ (w'.cell? ⟨vy, 0, none⟩ = some (.slice (some ⟨gy, 0, none⟩) (ny + 4) (ny + 4)) ∧ w'.cell? ⟨vy, 1, none⟩ = some (.int .i64 ny) ∧ w'.cell? ⟨vy, 2, none⟩ = some (.slice (some ⟨uy, 0, none⟩) (ny + 4) (ny + 4)))) ∧ Below W2.heap.size W2 w')
    (first | assumption | exact HS0.out _ (by assumption) | exact HS0.out _ (Below.drew (by assumption)) | exact HS0.out _ (Below.refl _ _).drew | exact HS0.out _ (below_on (s_below (by assumption)) (below_alloc1 _ _)))
    (first
      | (go_at_call_of 35 gx; (try clear hS); refine (list_any _ gx nx _ (by omega)).mono ?_; rintro e wn ⟨rfl, hb⟩; have hS := below_on (s_below (by assumption)) hb; (first | have hR := Arr2.below (Arr2.new _ gx ux nx gy uy ny) hb | have hR := Arr2.below (Arr2.new _ gx ux nx gy uy ny).drew hb | replace hR := Arr2.below hR hb | skip); (first | have hQ := Arr1.below (Arr1.new _ gx ux nx) hb | replace hQ := Arr1.below hQ hb | skip); clear hb)
      | (go_at_call_of 35 gy; (try clear hS); refine (list_any _ gy ny _ (by omega)).mono ?_; rintro e wn ⟨rfl, hb⟩; have hS := below_on (s_below (by assumption)) hb; (first | have hR := Arr2.below (Arr2.new _ gx ux nx gy uy ny) hb | have hR := Arr2.below (Arr2.new _ gx ux nx gy uy ny).drew hb | replace hR := Arr2.below hR hb | skip); (first | have hQ := Arr1.below (Arr1.new _ gx ux nx) hb | replace hQ := Arr1.below hQ hb | skip); clear hb)
      | (go_at_call 34; refine (dm_u (hx.below (s_below (by assumption))).val (hy.below (s_below (by assumption))).val (by omega) (by omega)).mono ?_; rintro e w6 ⟨q6, r6, z6, rfl, hor6, hb⟩; have hz6 := size_on (s_below (by assumption)) hb; have hS6 := below_on (s_below (by assumption)) hb; have hS := hS6; clear hb))
  go_upto_if 28 with (go_at_call 36; refine (rtrim_v (h_b.below hS6) (by omega)).mono ?_; rintro e w7 ⟨v7, rfl, ⟨A, m, d, rfl, hs, hm⟩, hb7⟩; have hS7 := below_on hS6 hb7; clear hS; have hml := hs.len)
  go_cut [] from 7 (fun wc => Below W2.heap.size W2 wc)
  case first =>
    rcases hor6 with ⟨hz, rfl, rfl, rfl⟩ | ⟨hz, rfl, ⟨g6, n6, c6, rfl, ho6, hn6⟩, ⟨h6, p6, d6, rfl, hp6, hq6⟩, hgt⟩
    · have hm0 := ofN_len_zero hml hz
      subst hm0
      clear hs hml
      go_wp2_with fail
      go_meet
      case rel => exact hS7
    have hgh : g6 < h6 := hgt _ _ _ _ _ _ rfl rfl
    clear hgt
    have hm0 := ofN_len_pos hml hz
    have tm : ((m : Int) == 0) = false := by
      have : ¬ (m : Int) = 0 := by omega
      simpa using this
    replace ho6 := ho6.below hb7
    replace hp6 := hp6.below hb7
    clear hs hml
    go_wp2_with fail
    refine (rdm_f (h_a.below hS7) (h_b.below hS7) (by omega) (by omega) hz).mono ?_
    rintro e w8 ⟨s, t, rfl, ⟨g1, m1, d1, rfl, hs1, hm1⟩, ⟨g2, m2, d2, rfl, hs2, hm2⟩, hb8⟩
    have hS8 := below_on hS7 hb8
    have hg6 : g6 ≠ g2 := by have := ho6.base_le; have := hs2.base_le; omega
    have hB6 : W2.heap.size ≤ g6 := by have := ho6.base_le; omega
    have hB5 : W2.heap.size ≤ h6 := by omega
    replace ho6 := ho6.below hb8
    replace hp6 := hp6.below hb8
    obtain ⟨qx0, qx1, qx2⟩ := hvx.below hS8
    obtain ⟨qy0, qy1, qy2⟩ := hvy.below hS8
    have hal := below_alloc1 w8 (.cells #[.slice (some ⟨gx, 0, none⟩) (nx + 4) (nx + 4), .int .i64 nx, .slice (some ⟨ux, 0, none⟩) (nx + 4) (nx + 4), .slice (some ⟨gy, 0, none⟩) (ny + 4) (ny + 4), .int .i64 ny, .slice (some ⟨uy, 0, none⟩) (ny + 4) (ny + 4)] 53)
    have hSa := below_on hS8 hal
    clear hz6 hS6 hb7 hS7 hb8
    go_wp2_with fail
    refine (is_two (ho6.below hal) (hs1.below hal).sl (by omega) (Arr2.new _ gx ux nx gy uy ny) (hx.below hSa) (hy.below hSa) (by omega) (by omega) hB6 hlx hly (by omega)).mono ?_
    rintro e w9 ⟨rfl, hg9⟩
    have hS9 := below_gb hSa hg9 hB6
    replace hp6 := (hp6.below hal).grown hg9 (by omega)
    replace hs2 := (hs2.below hal).grown hg9 (fun e => hg6 e.symm)
    clear ho6 hs1 hg9 hSa hal hS8 qx0 qx1 qx2 qy0 qy1 qy2
    obtain ⟨qx0, qx1, qx2⟩ := hvx.below hS9
    obtain ⟨qy0, qy1, qy2⟩ := hvy.below hS9
    have hal := below_alloc1 w9 (.cells #[.slice (some ⟨gx, 0, none⟩) (nx + 4) (nx + 4), .int .i64 nx, .slice (some ⟨ux, 0, none⟩) (nx + 4) (nx + 4), .slice (some ⟨gy, 0, none⟩) (ny + 4) (ny + 4), .int .i64 ny, .slice (some ⟨uy, 0, none⟩) (ny + 4) (ny + 4)] 53)
    have hSa := below_on hS9 hal
    go_wp2_with fail
    refine (is_two (hp6.below hal) (hs2.below hal).sl (by omega) (Arr2.new _ gx ux nx gy uy ny) (hx.below hSa) (hy.below hSa) (by omega) (by omega) hB5 hlx hly (by omega)).mono ?_
    rintro e w10 ⟨rfl, hg10⟩
    have hS10 := below_gb hSa hg10 hB5
    clear hp6 hs2 hg10 hSa hal hS9 qx0 qx1 qx2 qy0 qy1 qy2
    go_wp2_with fail
    go_meet
    case rel => exact hS10
  case rest =>
    clear hor6 hz6 hS6 hb7 hS7 hs hm hml
    go_wp2_with fail
    refine wp_region_noPanic ?_
    refine wp_region_held_drew (S := (fun w' => ((w'.cell? ⟨vx, 0, none⟩ = some (.slice (some ⟨gx, 0, none⟩) (nx + 4) (nx + 4)) ∧ w'.cell? ⟨vx, 1, none⟩ = some (.int .i64 nx) ∧ w'.cell? ⟨vx, 2, none⟩ = some (.slice (some ⟨ux, 0, none⟩) (nx + 4) (nx + 4))) ∧ (w'.cell? ⟨vy, 0, none⟩ = some (.slice (some ⟨gy, 0, none⟩) (ny + 4) (ny + 4)) ∧ w'.cell? ⟨vy, 1, none⟩ = some (.int .i64 ny) ∧ w'.cell? ⟨vy, 2, none⟩ = some (.slice (some ⟨uy, 0, none⟩) (ny + 4) (ny + 4)))) ∧ Below W2.heap.size W2 w')) (by kernel_rfl) ?_ (fun hHeld => ?_)
    · first | exact HS0.out _ (Below.drew hcut) | exact HS0.out _ (Below.refl _ _).drew
    (try dsimp only at hHeld)
    refine with_rest (m := 4) #[true, true, true, true, true, true, true, true, true, true, true, true, true, true, true, true, true, true, true, true, true, true, true, true, true, false, false, false, false] (fun A0 => A0 = { tmps := #[a, b, undef, undef, A0.tmps.getD 4 undef, .pointer (some ⟨vx, 0, none⟩), .pointer (some ⟨vy, 0, none⟩), A0.tmps.getD 7 undef, A0.tmps.getD 8 undef, A0.tmps.getD 9 undef, A0.tmps.getD 10 undef, A0.tmps.getD 11 undef, A0.tmps.getD 12 undef, A0.tmps.getD 13 undef, A0.tmps.getD 14 undef, A0.tmps.getD 15 undef, A0.tmps.getD 16 undef, A0.tmps.getD 17 undef, A0.tmps.getD 18 undef, A0.tmps.getD 19 undef, A0.tmps.getD 20 undef, A0.tmps.getD 21 undef, A0.tmps.getD 22 undef, A0.tmps.getD 23 undef, A0.tmps.getD 24 undef, A0.tmps.getD 25 undef, A0.tmps.getD 26 undef, A0.tmps.getD 27 undef, A0.tmps.getD 28 undef, A0.tmps.getD 29 undef, A0.tmps.getD 30 undef, A0.tmps.getD 31 undef, A0.tmps.getD 32 undef, A0.tmps.getD 33 undef, A0.tmps.getD 34 undef, A0.tmps.getD 35 undef, A0.tmps.getD 36 undef, A0.tmps.getD 37 undef, A0.tmps.getD 38 undef, A0.tmps.getD 39 undef, A0.tmps.getD 40 undef, A0.tmps.getD 41 undef, A0.tmps.getD 42 undef, A0.tmps.getD 43 undef, A0.tmps.getD 44 undef, A0.tmps.getD 45 undef, A0.tmps.getD 46 undef, A0.tmps.getD 47 undef, A0.tmps.getD 48 undef, A0.tmps.getD 49 undef, A0.tmps.getD 50 undef, A0.tmps.getD 51 undef, A0.tmps.getD 52 undef, A0.tmps.getD 53 undef, A0.tmps.getD 54 undef, A0.tmps.getD 55 undef, A0.tmps.getD 56 undef, A0.tmps.getD 57 undef, A0.tmps.getD 58 undef, A0.tmps.getD 59 undef, A0.tmps.getD 60 undef, A0.tmps.getD 61 undef, A0.tmps.getD 62 undef, A0.tmps.getD 63 undef, A0.tmps.getD 64 undef, A0.tmps.getD 65 undef, A0.tmps.getD 66 undef, A0.tmps.getD 67 undef, A0.tmps.getD 68 undef, A0.tmps.getD 69 undef, A0.tmps.getD 70 undef, A0.tmps.getD 71 undef, A0.tmps.getD 72 undef, A0.tmps.getD 73 undef, A0.tmps.getD 74 undef, A0.tmps.getD 75 undef, A0.tmps.getD 76 undef, A0.tmps.getD 77 undef, A0.tmps.getD 78 undef, A0.tmps.getD 79 undef, A0.tmps.getD 80 undef, A0.tmps.getD 81 undef, A0.tmps.getD 82 undef, A0.tmps.getD 83 undef, A0.tmps.getD 84 undef, A0.tmps.getD 85 undef, A0.tmps.getD 86 undef, A0.tmps.getD 87 undef, A0.tmps.getD 88 undef, A0.tmps.getD 89 undef, A0.tmps.getD 90 undef, .bool true, A0.tmps.getD 92 undef, A0.tmps.getD 93 undef, A0.tmps.getD 94 undef], defers := [] }) ?rest2 (fun REST2 => ?_)
    case rest2 =>
      intro A wR hA hHeld
      obtain ⟨U, hU⟩ : ∃ U : Nat → Value, A = { tmps := #[a, b, undef, undef, U 4, .pointer (some ⟨vx, 0, none⟩), .pointer (some ⟨vy, 0, none⟩), U 7, U 8, U 9, U 10, U 11, U 12, U 13, U 14, U 15, U 16, U 17, U 18, U 19, U 20, U 21, U 22, U 23, U 24, U 25, U 26, U 27, U 28, U 29, U 30, U 31, U 32, U 33, U 34, U 35, U 36, U 37, U 38, U 39, U 40, U 41, U 42, U 43, U 44, U 45, U 46, U 47, U 48, U 49, U 50, U 51, U 52, U 53, U 54, U 55, U 56, U 57, U 58, U 59, U 60, U 61, U 62, U 63, U 64, U 65, U 66, U 67, U 68, U 69, U 70, U 71, U 72, U 73, U 74, U 75, U 76, U 77, U 78, U 79, U 80, U 81, U 82, U 83, U 84, U 85, U 86, U 87, U 88, U 89, U 90, .bool true, U 92, U 93, U 94], defers := [] } := ⟨fun k => A.tmps.getD k undef, hA⟩
      clear hA
      subst hU
      (try dsimp only at hHeld)
      refine take_at 25 (by kernel_rfl) (by kernel_rfl) (by kernel_rfl) (fun _ _ _ _ _ h => h) ⟨_, rfl⟩ (by assumption) (fun o ho => ?_)
      simp only [List.getElem?_toArray, List.getElem?_cons_succ, List.getElem?_cons_zero, Option.some.injEq] at ho
      subst ho
      refine ⟨?_, ⟨by rfl, ?_⟩, ?_⟩
      rotate_left
      · intro w hSw
        (try dsimp only at hSw)
        (go_simp; try with_reducible rfl)
      (try simp only [Act.put, List.setIfInBounds_toArray, List.set_cons_zero, List.set_cons_succ])
      refine wpAnyH_ready (rs := [26]) (by kernel_rfl) (by simp) ?_
      refine ready_at 26 ⟨_, rfl⟩ (fun o ho K hK => ?_) ?_
      · simp only [List.getElem?_toArray, List.getElem?_cons_succ, List.getElem?_cons_zero, Option.some.injEq] at ho
        subst ho
        go_simp
        (go_at_call 41; (try clear hS); refine (known_any _).mono ?_; rintro e wn ⟨rfl, hb⟩; have hS := below_on (s_below (by assumption)) hb; clear hb)
        refine hK.out _ _ ?_ (fun hHeld2 => ?_)
        · (try dsimp only)
          (first | assumption | exact HS0.out _ (by assumption) | exact HS0.out _ (Below.drew (by assumption)) | exact HS0.out _ (Below.refl _ _).drew | exact HS0.out _ (below_on (s_below (by assumption)) (below_alloc1 _ _)))
        replace hHeld := hHeld2
        clear hK K hHeld2
        (try dsimp only at hHeld)
        (try simp only [List.setIfInBounds_toArray, List.set_cons_zero, List.set_cons_succ])
        refine take_at 27 (by kernel_rfl) (by kernel_rfl) (by kernel_rfl) (fun _ _ _ _ _ h => h) ⟨_, rfl⟩ (by assumption) (fun o ho => ?_)
        simp only [List.getElem?_toArray, List.getElem?_cons_succ, List.getElem?_cons_zero, Option.some.injEq] at ho
        subst ho
        refine ⟨?_, ⟨by rfl, ?_⟩, ?_⟩
        rotate_left
        · intro w hSw
          (try dsimp only at hSw)
          (go_simp; try with_reducible rfl)
        (try simp only [Act.put, List.setIfInBounds_toArray, List.set_cons_zero, List.set_cons_succ])
        refine take_at 28 (by kernel_rfl) (by kernel_rfl) (by kernel_rfl) (fun _ _ _ _ _ h => h) ⟨_, rfl⟩ (by assumption) (fun o ho => ?_)
        simp only [List.getElem?_toArray, List.getElem?_cons_succ, List.getElem?_cons_zero, Option.some.injEq] at ho
        subst ho
        refine ⟨?_, ⟨by rfl, ?_⟩, ?_⟩
        rotate_left
        · intro w hSw
          (try dsimp only at hSw)
          (go_simp; try with_reducible rfl)
        (try simp only [Act.put, List.setIfInBounds_toArray, List.set_cons_zero, List.set_cons_succ])
        refine wpAnyH_done (by kernel_rfl) ?_ _
        refine NoPanic.normal ?_
        go_wp2_with fail
        go_ret
        exact ⟨rfl, below_on hw hS⟩
      exact AllReadyH.nil
    refine with_rest (m := 17) #[true, true, true, true, true, true, true, true, true, true, true, true, false, false, false, false, false, false, false, false, false, false, false, false, false, false, false, false, false] (fun A0 => A0 = { tmps := #[a, b, undef, undef, A0.tmps.getD 4 undef, .pointer (some ⟨vx, 0, none⟩), .pointer (some ⟨vy, 0, none⟩), A0.tmps.getD 7 undef, A0.tmps.getD 8 undef, A0.tmps.getD 9 undef, A0.tmps.getD 10 undef, A0.tmps.getD 11 undef, A0.tmps.getD 12 undef, A0.tmps.getD 13 undef, A0.tmps.getD 14 undef, A0.tmps.getD 15 undef, A0.tmps.getD 16 undef, A0.tmps.getD 17 undef, A0.tmps.getD 18 undef, A0.tmps.getD 19 undef, A0.tmps.getD 20 undef, A0.tmps.getD 21 undef, A0.tmps.getD 22 undef, A0.tmps.getD 23 undef, A0.tmps.getD 24 undef, A0.tmps.getD 25 undef, A0.tmps.getD 26 undef, A0.tmps.getD 27 undef, A0.tmps.getD 28 undef, A0.tmps.getD 29 undef, A0.tmps.getD 30 undef, A0.tmps.getD 31 undef, A0.tmps.getD 32 undef, A0.tmps.getD 33 undef, A0.tmps.getD 34 undef, A0.tmps.getD 35 undef, A0.tmps.getD 36 undef, A0.tmps.getD 37 undef, A0.tmps.getD 38 undef, A0.tmps.getD 39 undef, A0.tmps.getD 40 undef, A0.tmps.getD 41 undef, A0.tmps.getD 42 undef, A0.tmps.getD 43 undef, A0.tmps.getD 44 undef, A0.tmps.getD 45 undef, A0.tmps.getD 46 undef, A0.tmps.getD 47 undef, A0.tmps.getD 48 undef, A0.tmps.getD 49 undef, A0.tmps.getD 50 undef, A0.tmps.getD 51 undef, A0.tmps.getD 52 undef, A0.tmps.getD 53 undef, A0.tmps.getD 54 undef, A0.tmps.getD 55 undef, A0.tmps.getD 56 undef, A0.tmps.getD 57 undef, A0.tmps.getD 58 undef, A0.tmps.getD 59 undef, A0.tmps.getD 60 undef, A0.tmps.getD 61 undef, A0.tmps.getD 62 undef, A0.tmps.getD 63 undef, A0.tmps.getD 64 undef, A0.tmps.getD 65 undef, A0.tmps.getD 66 undef, A0.tmps.getD 67 undef, A0.tmps.getD 68 undef, A0.tmps.getD 69 undef, A0.tmps.getD 70 undef, A0.tmps.getD 71 undef, A0.tmps.getD 72 undef, A0.tmps.getD 73 undef, A0.tmps.getD 74 undef, A0.tmps.getD 75 undef, A0.tmps.getD 76 undef, A0.tmps.getD 77 undef, .bool true, A0.tmps.getD 79 undef, A0.tmps.getD 80 undef, A0.tmps.getD 81 undef, A0.tmps.getD 82 undef, A0.tmps.getD 83 undef, A0.tmps.getD 84 undef, A0.tmps.getD 85 undef, A0.tmps.getD 86 undef, A0.tmps.getD 87 undef, A0.tmps.getD 88 undef, A0.tmps.getD 89 undef, A0.tmps.getD 90 undef, A0.tmps.getD 91 undef, A0.tmps.getD 92 undef, A0.tmps.getD 93 undef, A0.tmps.getD 94 undef], defers := [] }) ?rest1 (fun REST1 => ?_)
    case rest1 =>
      intro A wR hA hHeld
      obtain ⟨U, hU⟩ : ∃ U : Nat → Value, A = { tmps := #[a, b, undef, undef, U 4, .pointer (some ⟨vx, 0, none⟩), .pointer (some ⟨vy, 0, none⟩), U 7, U 8, U 9, U 10, U 11, U 12, U 13, U 14, U 15, U 16, U 17, U 18, U 19, U 20, U 21, U 22, U 23, U 24, U 25, U 26, U 27, U 28, U 29, U 30, U 31, U 32, U 33, U 34, U 35, U 36, U 37, U 38, U 39, U 40, U 41, U 42, U 43, U 44, U 45, U 46, U 47, U 48, U 49, U 50, U 51, U 52, U 53, U 54, U 55, U 56, U 57, U 58, U 59, U 60, U 61, U 62, U 63, U 64, U 65, U 66, U 67, U 68, U 69, U 70, U 71, U 72, U 73, U 74, U 75, U 76, U 77, .bool true, U 79, U 80, U 81, U 82, U 83, U 84, U 85, U 86, U 87, U 88, U 89, U 90, U 91, U 92, U 93, U 94], defers := [] } := ⟨fun k => A.tmps.getD k undef, hA⟩
      clear hA
      subst hU
      (try dsimp only at hHeld)
      refine take_at 12 (by kernel_rfl) (by kernel_rfl) (by kernel_rfl) (fun _ _ _ _ _ h => h) ⟨_, rfl⟩ (by assumption) (fun o ho => ?_)
      simp only [List.getElem?_toArray, List.getElem?_cons_succ, List.getElem?_cons_zero, Option.some.injEq] at ho
      subst ho
      refine ⟨?_, ⟨by rfl, ?_⟩, ?_⟩
      rotate_left
      · intro w hSw
        (try dsimp only at hSw)
        (go_simp; try with_reducible rfl)
      (try simp only [Act.put, List.setIfInBounds_toArray, List.set_cons_zero, List.set_cons_succ])
      refine take_at 13 (by kernel_rfl) (by kernel_rfl) (by kernel_rfl) (fun _ _ _ _ _ h => h) ⟨_, rfl⟩ (by assumption) (fun o ho => ?_)
      simp only [List.getElem?_toArray, List.getElem?_cons_succ, List.getElem?_cons_zero, Option.some.injEq] at ho
      subst ho
      refine ⟨?_, ⟨by rfl, ?_⟩, ?_⟩
      rotate_left
      · intro w hSw
        (try dsimp only at hSw)
        (go_simp; try with_reducible rfl)
      (try simp only [Act.put, List.setIfInBounds_toArray, List.set_cons_zero, List.set_cons_succ])
      refine take_at 15 (by kernel_rfl) (by kernel_rfl) (by kernel_rfl) (fun _ _ _ _ _ h => h) ⟨_, rfl⟩ (by assumption) (fun o ho => ?_)
      simp only [List.getElem?_toArray, List.getElem?_cons_succ, List.getElem?_cons_zero, Option.some.injEq] at ho
      subst ho
      refine ⟨?_, ⟨by rfl, ?_⟩, ?_⟩
      rotate_left
      · intro w hSw
        (try dsimp only at hSw)
        (go_simp; try with_reducible rfl)
      (try simp only [Act.put, List.setIfInBounds_toArray, List.set_cons_zero, List.set_cons_succ])
      refine take_at 18 (by kernel_rfl) (by kernel_rfl) (by kernel_rfl) (fun _ _ _ _ _ h => h) ⟨_, rfl⟩ (by assumption) (fun o ho => ?_)
      simp only [List.getElem?_toArray, List.getElem?_cons_succ, List.getElem?_cons_zero, Option.some.injEq] at ho
      subst ho
      refine ⟨?_, ⟨by rfl, ?_⟩, ?_⟩
      rotate_left
      · intro w hSw
        (try dsimp only at hSw)
        (go_simp; try with_reducible rfl)
      (try simp only [Act.put, List.setIfInBounds_toArray, List.set_cons_zero, List.set_cons_succ])
      refine take_at 19 (by kernel_rfl) (by kernel_rfl) (by kernel_rfl) (fun _ _ _ _ _ h => h) ⟨_, rfl⟩ (by assumption) (fun o ho => ?_)
      simp only [List.getElem?_toArray, List.getElem?_cons_succ, List.getElem?_cons_zero, Option.some.injEq] at ho
      subst ho
      refine ⟨?_, ⟨by rfl, ?_⟩, ?_⟩
      rotate_left
      · intro w hSw
        (try dsimp only at hSw)
        (go_simp; try with_reducible rfl)
      (try simp only [Act.put, List.setIfInBounds_toArray, List.set_cons_zero, List.set_cons_succ])
      refine take_at 21 (by kernel_rfl) (by kernel_rfl) (by kernel_rfl) (fun _ _ _ _ _ h => h) ⟨_, rfl⟩ (by assumption) (fun o ho => ?_)
      simp only [List.getElem?_toArray, List.getElem?_cons_succ, List.getElem?_cons_zero, Option.some.injEq] at ho
      subst ho
      refine ⟨?_, ⟨by rfl, ?_⟩, ?_⟩
      rotate_left
      · intro w hSw
        (try dsimp only at hSw)
        (go_simp; try with_reducible rfl)
      (try simp only [Act.put, List.setIfInBounds_toArray, List.set_cons_zero, List.set_cons_succ])
      refine wpAnyH_ready (rs := [14, 22]) (by kernel_rfl) (by simp) ?_
      refine ready_at 14 ⟨_, rfl⟩ (fun o ho K hK => ?_) ?_
      · simp only [List.getElem?_toArray, List.getElem?_cons_succ, List.getElem?_cons_zero, Option.some.injEq] at ho
        subst ho
        go_simp
        (first
          | (go_at_call_of 35 gx; (try clear hS); refine (list_any _ gx nx _ (by omega)).mono ?_; rintro e wn ⟨rfl, hb⟩; have hS := below_on (s_below (by assumption)) hb; (first | have hR := Arr2.below (Arr2.new _ gx ux nx gy uy ny) hb | have hR := Arr2.below (Arr2.new _ gx ux nx gy uy ny).drew hb | replace hR := Arr2.below hR hb | skip); (first | have hQ := Arr1.below (Arr1.new _ gx ux nx) hb | replace hQ := Arr1.below hQ hb | skip); clear hb)
          | (go_at_call_of 35 gy; (try clear hS); refine (list_any _ gy ny _ (by omega)).mono ?_; rintro e wn ⟨rfl, hb⟩; have hS := below_on (s_below (by assumption)) hb; (first | have hR := Arr2.below (Arr2.new _ gx ux nx gy uy ny) hb | have hR := Arr2.below (Arr2.new _ gx ux nx gy uy ny).drew hb | replace hR := Arr2.below hR hb | skip); (first | have hQ := Arr1.below (Arr1.new _ gx ux nx) hb | replace hQ := Arr1.below hQ hb | skip); clear hb))
        refine hK.out _ _ ?_ (fun hHeld2 => ?_)
        · (try dsimp only)
          (first | assumption | exact HS0.out _ (by assumption) | exact HS0.out _ (Below.drew (by assumption)) | exact HS0.out _ (Below.refl _ _).drew | exact HS0.out _ (below_on (s_below (by assumption)) (below_alloc1 _ _)))
        replace hHeld := hHeld2
        clear hK K hHeld2
        (try dsimp only at hHeld)
        (try simp only [List.setIfInBounds_toArray, List.set_cons_zero, List.set_cons_succ])
        refine wpAnyH_ready (rs := [16, 22]) (by kernel_rfl) (by simp) ?_
        refine ready_at 16 ⟨_, rfl⟩ (fun o ho K hK => ?_) ?_
        · simp only [List.getElem?_toArray, List.getElem?_cons_succ, List.getElem?_cons_zero, Option.some.injEq] at ho
          subst ho
          go_simp
          (first
            | (go_at_call_of 35 gx; (try clear hS); refine (list_any _ gx nx _ (by omega)).mono ?_; rintro e wn ⟨rfl, hb⟩; have hS := below_on (s_below (by assumption)) hb; (first | have hR := Arr2.below (Arr2.new _ gx ux nx gy uy ny) hb | have hR := Arr2.below (Arr2.new _ gx ux nx gy uy ny).drew hb | replace hR := Arr2.below hR hb | skip); (first | have hQ := Arr1.below (Arr1.new _ gx ux nx) hb | replace hQ := Arr1.below hQ hb | skip); clear hb)
            | (go_at_call_of 35 gy; (try clear hS); refine (list_any _ gy ny _ (by omega)).mono ?_; rintro e wn ⟨rfl, hb⟩; have hS := below_on (s_below (by assumption)) hb; (first | have hR := Arr2.below (Arr2.new _ gx ux nx gy uy ny) hb | have hR := Arr2.below (Arr2.new _ gx ux nx gy uy ny).drew hb | replace hR := Arr2.below hR hb | skip); (first | have hQ := Arr1.below (Arr1.new _ gx ux nx) hb | replace hQ := Arr1.below hQ hb | skip); clear hb))
          refine hK.out _ _ ?_ (fun hHeld2 => ?_)
          · (try dsimp only)
            (first | assumption | exact HS0.out _ (by assumption) | exact HS0.out _ (Below.drew (by assumption)) | exact HS0.out _ (Below.refl _ _).drew | exact HS0.out _ (below_on (s_below (by assumption)) (below_alloc1 _ _)))
          replace hHeld := hHeld2
          clear hK K hHeld2
          (try dsimp only at hHeld)
          (try simp only [List.setIfInBounds_toArray, List.set_cons_zero, List.set_cons_succ])
          refine wpAnyH_ready (rs := [17, 22]) (by kernel_rfl) (by simp) ?_
          refine ready_at 17 ⟨_, rfl⟩ (fun o ho K hK => ?_) ?_
          · simp only [List.getElem?_toArray, List.getElem?_cons_succ, List.getElem?_cons_zero, Option.some.injEq] at ho
            subst ho
            go_simp
            (first
              | (go_at_call_of 39 gy; (try clear hS); refine (mul_v (hx.below (s_below (by assumption))).val (hy.below (s_below (by assumption))).val (by omega)).mono ?_; rintro e w6 ⟨v6, rfl, ⟨g6, n6, c6, rfl, ho6, hn6⟩, hb⟩; have hz6 := size_on (s_below (by assumption)) hb; have hS := below_on (s_below (by assumption)) hb; (first | have hR := Arr2.below (Arr2.new _ gx ux nx gy uy ny) hb | have hR := Arr2.below (Arr2.new _ gx ux nx gy uy ny).drew hb | replace hR := Arr2.below hR hb | skip); (first | have hQ := Arr1.below (Arr1.new _ gx ux nx) hb | replace hQ := Arr1.below hQ hb | skip); clear hb)
              | (go_at_call 39; (try clear hS); refine (mul_v (hx.below (s_below (by assumption))).val (hx.below (s_below (by assumption))).val (by omega)).mono ?_; rintro e w6 ⟨v6, rfl, ⟨g6, n6, c6, rfl, ho6, hn6⟩, hb⟩; have hz6 := size_on (s_below (by assumption)) hb; have hS := below_on (s_below (by assumption)) hb; (first | have hR := Arr2.below (Arr2.new _ gx ux nx gy uy ny) hb | have hR := Arr2.below (Arr2.new _ gx ux nx gy uy ny).drew hb | replace hR := Arr2.below hR hb | skip); (first | have hQ := Arr1.below (Arr1.new _ gx ux nx) hb | replace hQ := Arr1.below hQ hb | skip); clear hb))
            refine hK.out _ _ ?_ (fun hHeld2 => ?_)
            · (try dsimp only)
              (first | assumption | exact HS0.out _ (by assumption) | exact HS0.out _ (Below.drew (by assumption)) | exact HS0.out _ (Below.refl _ _).drew | exact HS0.out _ (below_on (s_below (by assumption)) (below_alloc1 _ _)))
            replace hHeld := hHeld2
            clear hK K hHeld2
            (try dsimp only at hHeld)
            (try simp only [List.setIfInBounds_toArray, List.set_cons_zero, List.set_cons_succ])
            refine wpAnyH_ready (rs := [20, 22]) (by kernel_rfl) (by simp) ?_
            refine ready_at 20 ⟨_, rfl⟩ (fun o ho K hK => ?_) ?_
            · simp only [List.getElem?_toArray, List.getElem?_cons_succ, List.getElem?_cons_zero, Option.some.injEq] at ho
              subst ho
              go_simp
              (first
                | (go_at_call_of 40 b; (try clear hS); refine (rmul_v (h_a.below (s_below (by assumption))) (h_b.below (s_below (by assumption))) (by omega) (by omega)).mono ?_; rintro e w7 ⟨v7, rfl, ⟨A7, m7, d7, rfl, hs7, hn7⟩, hb⟩; have hS := below_on (s_below (by assumption)) hb; have hA7 : Below w6.heap.size w6 w7 := (by first | exact hb | exact below_on (below_alloc1 _ _) hb | exact below_on (below_drew1 _) hb | exact below_on (below_on (below_drew1 _) (below_alloc1 _ _)) hb); replace ho6 := ho6.below hA7; clear hA7; (first | have hR := Arr2.below (Arr2.new _ gx ux nx gy uy ny) hb | have hR := Arr2.below (Arr2.new _ gx ux nx gy uy ny).drew hb | replace hR := Arr2.below hR hb | skip); (first | have hQ := Arr1.below (Arr1.new _ gx ux nx) hb | replace hQ := Arr1.below hQ hb | skip); clear hb)
                | (go_at_call 40; (try clear hS); refine (rmul_v (h_a.below (s_below (by assumption))) (h_a.below (s_below (by assumption))) (by omega) (by omega)).mono ?_; rintro e w7 ⟨v7, rfl, ⟨A7, m7, d7, rfl, hs7, hn7⟩, hb⟩; have hS := below_on (s_below (by assumption)) hb; have hA7 : Below w6.heap.size w6 w7 := (by first | exact hb | exact below_on (below_alloc1 _ _) hb | exact below_on (below_drew1 _) hb | exact below_on (below_on (below_drew1 _) (below_alloc1 _ _)) hb); replace ho6 := ho6.below hA7; clear hA7; (first | have hR := Arr2.below (Arr2.new _ gx ux nx gy uy ny) hb | have hR := Arr2.below (Arr2.new _ gx ux nx gy uy ny).drew hb | replace hR := Arr2.below hR hb | skip); (first | have hQ := Arr1.below (Arr1.new _ gx ux nx) hb | replace hQ := Arr1.below hQ hb | skip); clear hb))
              refine hK.out _ _ ?_ (fun hHeld2 => ?_)
              · (try dsimp only)
                (first | assumption | exact HS0.out _ (by assumption) | exact HS0.out _ (Below.drew (by assumption)) | exact HS0.out _ (Below.refl _ _).drew | exact HS0.out _ (below_on (s_below (by assumption)) (below_alloc1 _ _)))
              replace hHeld := hHeld2
              clear hK K hHeld2
              (try dsimp only at hHeld)
              (try simp only [List.setIfInBounds_toArray, List.set_cons_zero, List.set_cons_succ])
              refine wpAnyH_ready (rs := [22]) (by kernel_rfl) (by simp) ?_
              refine ready_at 22 ⟨_, rfl⟩ (fun o ho K hK => ?_) ?_
              · simp only [List.getElem?_toArray, List.getElem?_cons_succ, List.getElem?_cons_zero, Option.some.injEq] at ho
                subst ho
                go_simp
                refine hK.out _ _ ?_ (fun hHeld2 => ?_)
                · (try dsimp only)
                  (first | assumption | exact HS0.out _ (by assumption) | exact HS0.out _ (Below.drew (by assumption)) | exact HS0.out _ (Below.refl _ _).drew | exact HS0.out _ (below_on (s_below (by assumption)) (below_alloc1 _ _)))
                replace hHeld := hHeld2
                clear hK K hHeld2
                (try dsimp only at hHeld)
                (try simp only [List.setIfInBounds_toArray, List.set_cons_zero, List.set_cons_succ])
                refine wpAnyH_ready (rs := [23]) (by kernel_rfl) (by simp) ?_
                refine ready_at 23 ⟨_, rfl⟩ (fun o ho K hK => ?_) ?_
                · simp only [List.getElem?_toArray, List.getElem?_cons_succ, List.getElem?_cons_zero, Option.some.injEq] at ho
                  subst ho
                  go_simp
                  (first
                    | (go_at_call_of 38 (2 : Nat); (try clear hS); refine (is_two (by first | exact ho6 | exact ho6.below (below_alloc1 _ _)) (by first | exact hs7 | exact hs7.below (below_alloc1 _ _)) (by omega) (by first | exact Arr2.new _ gx ux nx gy uy ny | exact hR) (hx.below (s_below (by assumption))) (hy.below (s_below (by assumption))) (by omega) (by omega) (by have := ho6.base_le; omega) hlx hly (by omega)).mono ?_; rintro e wn ⟨rfl, hg⟩; have hS := below_gb (s_below (by assumption)) hg (by have := ho6.base_le; omega); clear hg ho6 hs7 hz6; (try clear hR); (try clear hQ))
                    | (go_at_call_of 38 (1 : Nat); (try clear hS); refine (is_one (by first | exact ho6 | exact ho6.below (below_alloc1 _ _)) (by first | exact hs7 | exact hs7.below (below_alloc1 _ _)) (by omega) (by first | exact Arr1.new _ gx ux nx | exact hQ) (hx.below (s_below (by assumption))) (by omega) (by have := ho6.base_le; omega) hlx (by omega)).mono ?_; rintro e wn ⟨rfl, hg⟩; have hS := below_gb (s_below (by assumption)) hg (by have := ho6.base_le; omega); clear hg ho6 hs7 hz6; (try clear hR); (try clear hQ)))
                  refine hK.out _ _ ?_ (fun hHeld2 => ?_)
                  · (try dsimp only)
                    (first | assumption | exact HS0.out _ (by assumption) | exact HS0.out _ (Below.drew (by assumption)) | exact HS0.out _ (Below.refl _ _).drew | exact HS0.out _ (below_on (s_below (by assumption)) (below_alloc1 _ _)))
                  replace hHeld := hHeld2
                  clear hK K hHeld2
                  (try dsimp only at hHeld)
                  (try simp only [List.setIfInBounds_toArray, List.set_cons_zero, List.set_cons_succ])
                  refine take_at 24 (by kernel_rfl) (by kernel_rfl) (by kernel_rfl) (fun _ _ _ _ _ h => h) ⟨_, rfl⟩ (by assumption) (fun o ho => ?_)
                  simp only [List.getElem?_toArray, List.getElem?_cons_succ, List.getElem?_cons_zero, Option.some.injEq] at ho
                  subst ho
                  refine ⟨?_, ⟨by rfl, ?_⟩, ?_⟩
                  rotate_left
                  · intro w hSw
                    (try dsimp only at hSw)
                    (go_simp; try with_reducible rfl)
                  (try simp only [Act.put, List.setIfInBounds_toArray, List.set_cons_zero, List.set_cons_succ])
                  exact REST2 _ _ rfl hHeld
                exact AllReadyH.nil
              exact AllReadyH.nil
            refine ready_at 22 ⟨_, rfl⟩ (fun o ho K hK => ?_) ?_
            · simp only [List.getElem?_toArray, List.getElem?_cons_succ, List.getElem?_cons_zero, Option.some.injEq] at ho
              subst ho
              go_simp
              refine hK.out _ _ ?_ (fun hHeld2 => ?_)
              · (try dsimp only)
                (first | assumption | exact HS0.out _ (by assumption) | exact HS0.out _ (Below.drew (by assumption)) | exact HS0.out _ (Below.refl _ _).drew | exact HS0.out _ (below_on (s_below (by assumption)) (below_alloc1 _ _)))
              replace hHeld := hHeld2
              clear hK K hHeld2
              (try dsimp only at hHeld)
              (try simp only [List.setIfInBounds_toArray, List.set_cons_zero, List.set_cons_succ])
              refine wpAnyH_ready (rs := [20]) (by kernel_rfl) (by simp) ?_
              refine ready_at 20 ⟨_, rfl⟩ (fun o ho K hK => ?_) ?_
              · simp only [List.getElem?_toArray, List.getElem?_cons_succ, List.getElem?_cons_zero, Option.some.injEq] at ho
                subst ho
                go_simp
                (first
                  | (go_at_call_of 40 b; (try clear hS); refine (rmul_v (h_a.below (s_below (by assumption))) (h_b.below (s_below (by assumption))) (by omega) (by omega)).mono ?_; rintro e w7 ⟨v7, rfl, ⟨A7, m7, d7, rfl, hs7, hn7⟩, hb⟩; have hS := below_on (s_below (by assumption)) hb; have hA7 : Below w6.heap.size w6 w7 := (by first | exact hb | exact below_on (below_alloc1 _ _) hb | exact below_on (below_drew1 _) hb | exact below_on (below_on (below_drew1 _) (below_alloc1 _ _)) hb); replace ho6 := ho6.below hA7; clear hA7; (first | have hR := Arr2.below (Arr2.new _ gx ux nx gy uy ny) hb | have hR := Arr2.below (Arr2.new _ gx ux nx gy uy ny).drew hb | replace hR := Arr2.below hR hb | skip); (first | have hQ := Arr1.below (Arr1.new _ gx ux nx) hb | replace hQ := Arr1.below hQ hb | skip); clear hb)
                  | (go_at_call 40; (try clear hS); refine (rmul_v (h_a.below (s_below (by assumption))) (h_a.below (s_below (by assumption))) (by omega) (by omega)).mono ?_; rintro e w7 ⟨v7, rfl, ⟨A7, m7, d7, rfl, hs7, hn7⟩, hb⟩; have hS := below_on (s_below (by assumption)) hb; have hA7 : Below w6.heap.size w6 w7 := (by first | exact hb | exact below_on (below_alloc1 _ _) hb | exact below_on (below_drew1 _) hb | exact below_on (below_on (below_drew1 _) (below_alloc1 _ _)) hb); replace ho6 := ho6.below hA7; clear hA7; (first | have hR := Arr2.below (Arr2.new _ gx ux nx gy uy ny) hb | have hR := Arr2.below (Arr2.new _ gx ux nx gy uy ny).drew hb | replace hR := Arr2.below hR hb | skip); (first | have hQ := Arr1.below (Arr1.new _ gx ux nx) hb | replace hQ := Arr1.below hQ hb | skip); clear hb))
                refine hK.out _ _ ?_ (fun hHeld2 => ?_)
                · (try dsimp only)
                  (first | assumption | exact HS0.out _ (by assumption) | exact HS0.out _ (Below.drew (by assumption)) | exact HS0.out _ (Below.refl _ _).drew | exact HS0.out _ (below_on (s_below (by assumption)) (below_alloc1 _ _)))
                replace hHeld := hHeld2
                clear hK K hHeld2
                (try dsimp only at hHeld)
                (try simp only [List.setIfInBounds_toArray, List.set_cons_zero, List.set_cons_succ])
                refine wpAnyH_ready (rs := [23]) (by kernel_rfl) (by simp) ?_
                refine ready_at 23 ⟨_, rfl⟩ (fun o ho K hK => ?_) ?_
                · simp only [List.getElem?_toArray, List.getElem?_cons_succ, List.getElem?_cons_zero, Option.some.injEq] at ho
                  subst ho
                  go_simp
                  (first
                    | (go_at_call_of 38 (2 : Nat); (try clear hS); refine (is_two (by first | exact ho6 | exact ho6.below (below_alloc1 _ _)) (by first | exact hs7 | exact hs7.below (below_alloc1 _ _)) (by omega) (by first | exact Arr2.new _ gx ux nx gy uy ny | exact hR) (hx.below (s_below (by assumption))) (hy.below (s_below (by assumption))) (by omega) (by omega) (by have := ho6.base_le; omega) hlx hly (by omega)).mono ?_; rintro e wn ⟨rfl, hg⟩; have hS := below_gb (s_below (by assumption)) hg (by have := ho6.base_le; omega); clear hg ho6 hs7 hz6; (try clear hR); (try clear hQ))
                    | (go_at_call_of 38 (1 : Nat); (try clear hS); refine (is_one (by first | exact ho6 | exact ho6.below (below_alloc1 _ _)) (by first | exact hs7 | exact hs7.below (below_alloc1 _ _)) (by omega) (by first | exact Arr1.new _ gx ux nx | exact hQ) (hx.below (s_below (by assumption))) (by omega) (by have := ho6.base_le; omega) hlx (by omega)).mono ?_; rintro e wn ⟨rfl, hg⟩; have hS := below_gb (s_below (by assumption)) hg (by have := ho6.base_le; omega); clear hg ho6 hs7 hz6; (try clear hR); (try clear hQ)))
                  refine hK.out _ _ ?_ (fun hHeld2 => ?_)
                  · (try dsimp only)
                    (first | assumption | exact HS0.out _ (by assumption) | exact HS0.out _ (Below.drew (by assumption)) | exact HS0.out _ (Below.refl _ _).drew | exact HS0.out _ (below_on (s_below (by assumption)) (below_alloc1 _ _)))
                  replace hHeld := hHeld2
                  clear hK K hHeld2
                  (try dsimp only at hHeld)
                  (try simp only [List.setIfInBounds_toArray, List.set_cons_zero, List.set_cons_succ])
                  refine take_at 24 (by kernel_rfl) (by kernel_rfl) (by kernel_rfl) (fun _ _ _ _ _ h => h) ⟨_, rfl⟩ (by assumption) (fun o ho => ?_)
                  simp only [List.getElem?_toArray, List.getElem?_cons_succ, List.getElem?_cons_zero, Option.some.injEq] at ho
                  subst ho
                  refine ⟨?_, ⟨by rfl, ?_⟩, ?_⟩
                  rotate_left
                  · intro w hSw
                    (try dsimp only at hSw)
                    (go_simp; try with_reducible rfl)
                  (try simp only [Act.put, List.setIfInBounds_toArray, List.set_cons_zero, List.set_cons_succ])
                  exact REST2 _ _ rfl hHeld
                exact AllReadyH.nil
              exact AllReadyH.nil
            exact AllReadyH.nil
          refine ready_at 22 ⟨_, rfl⟩ (fun o ho K hK => ?_) ?_
          · simp only [List.getElem?_toArray, List.getElem?_cons_succ, List.getElem?_cons_zero, Option.some.injEq] at ho
            subst ho
            go_simp
            refine hK.out _ _ ?_ (fun hHeld2 => ?_)
            · (try dsimp only)
              (first | assumption | exact HS0.out _ (by assumption) | exact HS0.out _ (Below.drew (by assumption)) | exact HS0.out _ (Below.refl _ _).drew | exact HS0.out _ (below_on (s_below (by assumption)) (below_alloc1 _ _)))
            replace hHeld := hHeld2
            clear hK K hHeld2
            (try dsimp only at hHeld)
            (try simp only [List.setIfInBounds_toArray, List.set_cons_zero, List.set_cons_succ])
            refine wpAnyH_ready (rs := [17]) (by kernel_rfl) (by simp) ?_
            refine ready_at 17 ⟨_, rfl⟩ (fun o ho K hK => ?_) ?_
            · simp only [List.getElem?_toArray, List.getElem?_cons_succ, List.getElem?_cons_zero, Option.some.injEq] at ho
              subst ho
              go_simp
              (first
                | (go_at_call_of 39 gy; (try clear hS); refine (mul_v (hx.below (s_below (by assumption))).val (hy.below (s_below (by assumption))).val (by omega)).mono ?_; rintro e w6 ⟨v6, rfl, ⟨g6, n6, c6, rfl, ho6, hn6⟩, hb⟩; have hz6 := size_on (s_below (by assumption)) hb; have hS := below_on (s_below (by assumption)) hb; (first | have hR := Arr2.below (Arr2.new _ gx ux nx gy uy ny) hb | have hR := Arr2.below (Arr2.new _ gx ux nx gy uy ny).drew hb | replace hR := Arr2.below hR hb | skip); (first | have hQ := Arr1.below (Arr1.new _ gx ux nx) hb | replace hQ := Arr1.below hQ hb | skip); clear hb)
                | (go_at_call 39; (try clear hS); refine (mul_v (hx.below (s_below (by assumption))).val (hx.below (s_below (by assumption))).val (by omega)).mono ?_; rintro e w6 ⟨v6, rfl, ⟨g6, n6, c6, rfl, ho6, hn6⟩, hb⟩; have hz6 := size_on (s_below (by assumption)) hb; have hS := below_on (s_below (by assumption)) hb; (first | have hR := Arr2.below (Arr2.new _ gx ux nx gy uy ny) hb | have hR := Arr2.below (Arr2.new _ gx ux nx gy uy ny).drew hb | replace hR := Arr2.below hR hb | skip); (first | have hQ := Arr1.below (Arr1.new _ gx ux nx) hb | replace hQ := Arr1.below hQ hb | skip); clear hb))
              refine hK.out _ _ ?_ (fun hHeld2 => ?_)
              · (try dsimp only)
                (first | assumption | exact HS0.out _ (by assumption) | exact HS0.out _ (Below.drew (by assumption)) | exact HS0.out _ (Below.refl _ _).drew | exact HS0.out _ (below_on (s_below (by assumption)) (below_alloc1 _ _)))
              replace hHeld := hHeld2
              clear hK K hHeld2
              (try dsimp only at hHeld)
              (try simp only [List.setIfInBounds_toArray, List.set_cons_zero, List.set_cons_succ])
              refine wpAnyH_ready (rs := [20]) (by kernel_rfl) (by simp) ?_
              refine ready_at 20 ⟨_, rfl⟩ (fun o ho K hK => ?_) ?_
              · simp only [List.getElem?_toArray, List.getElem?_cons_succ, List.getElem?_cons_zero, Option.some.injEq] at ho
                subst ho
                go_simp
                (first
                  | (go_at_call_of 40 b; (try clear hS); refine (rmul_v (h_a.below (s_below (by assumption))) (h_b.below (s_below (by assumption))) (by omega) (by omega)).mono ?_; rintro e w7 ⟨v7, rfl, ⟨A7, m7, d7, rfl, hs7, hn7⟩, hb⟩; have hS := below_on (s_below (by assumption)) hb; have hA7 : Below w6.heap.size w6 w7 := (by first | exact hb | exact below_on (below_alloc1 _ _) hb | exact below_on (below_drew1 _) hb | exact below_on (below_on (below_drew1 _) (below_alloc1 _ _)) hb); replace ho6 := ho6.below hA7; clear hA7; (first | have hR := Arr2.below (Arr2.new _ gx ux nx gy uy ny) hb | have hR := Arr2.below (Arr2.new _ gx ux nx gy uy ny).drew hb | replace hR := Arr2.below hR hb | skip); (first | have hQ := Arr1.below (Arr1.new _ gx ux nx) hb | replace hQ := Arr1.below hQ hb | skip); clear hb)
                  | (go_at_call 40; (try clear hS); refine (rmul_v (h_a.below (s_below (by assumption))) (h_a.below (s_below (by assumption))) (by omega) (by omega)).mono ?_; rintro e w7 ⟨v7, rfl, ⟨A7, m7, d7, rfl, hs7, hn7⟩, hb⟩; have hS := below_on (s_below (by assumption)) hb; have hA7 : Below w6.heap.size w6 w7 := (by first | exact hb | exact below_on (below_alloc1 _ _) hb | exact below_on (below_drew1 _) hb | exact below_on (below_on (below_drew1 _) (below_alloc1 _ _)) hb); replace ho6 := ho6.below hA7; clear hA7; (first | have hR := Arr2.below (Arr2.new _ gx ux nx gy uy ny) hb | have hR := Arr2.below (Arr2.new _ gx ux nx gy uy ny).drew hb | replace hR := Arr2.below hR hb | skip); (first | have hQ := Arr1.below (Arr1.new _ gx ux nx) hb | replace hQ := Arr1.below hQ hb | skip); clear hb))
                refine hK.out _ _ ?_ (fun hHeld2 => ?_)
                · (try dsimp only)
                  (first | assumption | exact HS0.out _ (by assumption) | exact HS0.out _ (Below.drew (by assumption)) | exact HS0.out _ (Below.refl _ _).drew | exact HS0.out _ (below_on (s_below (by assumption)) (below_alloc1 _ _)))
                replace hHeld := hHeld2
                clear hK K hHeld2
                (try dsimp only at hHeld)
                (try simp only [List.setIfInBounds_toArray, List.set_cons_zero, List.set_cons_succ])
                refine wpAnyH_ready (rs := [23]) (by kernel_rfl) (by simp) ?_
                refine ready_at 23 ⟨_, rfl⟩ (fun o ho K hK => ?_) ?_
                · simp only [List.getElem?_toArray, List.getElem?_cons_succ, List.getElem?_cons_zero, Option.some.injEq] at ho
                  subst ho
                  go_simp
                  (first
                    | (go_at_call_of 38 (2 : Nat); (try clear hS); refine (is_two (by first | exact ho6 | exact ho6.below (below_alloc1 _ _)) (by first | exact hs7 | exact hs7.below (below_alloc1 _ _)) (by omega) (by first | exact Arr2.new _ gx ux nx gy uy ny | exact hR) (hx.below (s_below (by assumption))) (hy.below (s_below (by assumption))) (by omega) (by omega) (by have := ho6.base_le; omega) hlx hly (by omega)).mono ?_; rintro e wn ⟨rfl, hg⟩; have hS := below_gb (s_below (by assumption)) hg (by have := ho6.base_le; omega); clear hg ho6 hs7 hz6; (try clear hR); (try clear hQ))
                    | (go_at_call_of 38 (1 : Nat); (try clear hS); refine (is_one (by first | exact ho6 | exact ho6.below (below_alloc1 _ _)) (by first | exact hs7 | exact hs7.below (below_alloc1 _ _)) (by omega) (by first | exact Arr1.new _ gx ux nx | exact hQ) (hx.below (s_below (by assumption))) (by omega) (by have := ho6.base_le; omega) hlx (by omega)).mono ?_; rintro e wn ⟨rfl, hg⟩; have hS := below_gb (s_below (by assumption)) hg (by have := ho6.base_le; omega); clear hg ho6 hs7 hz6; (try clear hR); (try clear hQ)))
                  refine hK.out _ _ ?_ (fun hHeld2 => ?_)
                  · (try dsimp only)
                    (first | assumption | exact HS0.out _ (by assumption) | exact HS0.out _ (Below.drew (by assumption)) | exact HS0.out _ (Below.refl _ _).drew | exact HS0.out _ (below_on (s_below (by assumption)) (below_alloc1 _ _)))
                  replace hHeld := hHeld2
                  clear hK K hHeld2
                  (try dsimp only at hHeld)
                  (try simp only [List.setIfInBounds_toArray, List.set_cons_zero, List.set_cons_succ])
                  refine take_at 24 (by kernel_rfl) (by kernel_rfl) (by kernel_rfl) (fun _ _ _ _ _ h => h) ⟨_, rfl⟩ (by assumption) (fun o ho => ?_)
                  simp only [List.getElem?_toArray, List.getElem?_cons_succ, List.getElem?_cons_zero, Option.some.injEq] at ho
                  subst ho
                  refine ⟨?_, ⟨by rfl, ?_⟩, ?_⟩
                  rotate_left
                  · intro w hSw
                    (try dsimp only at hSw)
                    (go_simp; try with_reducible rfl)
                  (try simp only [Act.put, List.setIfInBounds_toArray, List.set_cons_zero, List.set_cons_succ])
                  exact REST2 _ _ rfl hHeld
                exact AllReadyH.nil
              exact AllReadyH.nil
            exact AllReadyH.nil
          exact AllReadyH.nil
        refine ready_at 22 ⟨_, rfl⟩ (fun o ho K hK => ?_) ?_
        · simp only [List.getElem?_toArray, List.getElem?_cons_succ, List.getElem?_cons_zero, Option.some.injEq] at ho
          subst ho
          go_simp
          refine hK.out _ _ ?_ (fun hHeld2 => ?_)
          · (try dsimp only)
            (first | assumption | exact HS0.out _ (by assumption) | exact HS0.out _ (Below.drew (by assumption)) | exact HS0.out _ (Below.refl _ _).drew | exact HS0.out _ (below_on (s_below (by assumption)) (below_alloc1 _ _)))
          replace hHeld := hHeld2
          clear hK K hHeld2
          (try dsimp only at hHeld)
          (try simp only [List.setIfInBounds_toArray, List.set_cons_zero, List.set_cons_succ])
          refine wpAnyH_ready (rs := [16]) (by kernel_rfl) (by simp) ?_
          refine ready_at 16 ⟨_, rfl⟩ (fun o ho K hK => ?_) ?_
          · simp only [List.getElem?_toArray, List.getElem?_cons_succ, List.getElem?_cons_zero, Option.some.injEq] at ho
            subst ho
            go_simp
            (first
              | (go_at_call_of 35 gx; (try clear hS); refine (list_any _ gx nx _ (by omega)).mono ?_; rintro e wn ⟨rfl, hb⟩; have hS := below_on (s_below (by assumption)) hb; (first | have hR := Arr2.below (Arr2.new _ gx ux nx gy uy ny) hb | have hR := Arr2.below (Arr2.new _ gx ux nx gy uy ny).drew hb | replace hR := Arr2.below hR hb | skip); (first | have hQ := Arr1.below (Arr1.new _ gx ux nx) hb | replace hQ := Arr1.below hQ hb | skip); clear hb)
              | (go_at_call_of 35 gy; (try clear hS); refine (list_any _ gy ny _ (by omega)).mono ?_; rintro e wn ⟨rfl, hb⟩; have hS := below_on (s_below (by assumption)) hb; (first | have hR := Arr2.below (Arr2.new _ gx ux nx gy uy ny) hb | have hR := Arr2.below (Arr2.new _ gx ux nx gy uy ny).drew hb | replace hR := Arr2.below hR hb | skip); (first | have hQ := Arr1.below (Arr1.new _ gx ux nx) hb | replace hQ := Arr1.below hQ hb | skip); clear hb))
            refine hK.out _ _ ?_ (fun hHeld2 => ?_)
            · (try dsimp only)
              (first | assumption | exact HS0.out _ (by assumption) | exact HS0.out _ (Below.drew (by assumption)) | exact HS0.out _ (Below.refl _ _).drew | exact HS0.out _ (below_on (s_below (by assumption)) (below_alloc1 _ _)))
            replace hHeld := hHeld2
            clear hK K hHeld2
            (try dsimp only at hHeld)
            (try simp only [List.setIfInBounds_toArray, List.set_cons_zero, List.set_cons_succ])
            refine wpAnyH_ready (rs := [17]) (by kernel_rfl) (by simp) ?_
            refine ready_at 17 ⟨_, rfl⟩ (fun o ho K hK => ?_) ?_
            · simp only [List.getElem?_toArray, List.getElem?_cons_succ, List.getElem?_cons_zero, Option.some.injEq] at ho
              subst ho
              go_simp
              (first
                | (go_at_call_of 39 gy; (try clear hS); refine (mul_v (hx.below (s_below (by assumption))).val (hy.below (s_below (by assumption))).val (by omega)).mono ?_; rintro e w6 ⟨v6, rfl, ⟨g6, n6, c6, rfl, ho6, hn6⟩, hb⟩; have hz6 := size_on (s_below (by assumption)) hb; have hS := below_on (s_below (by assumption)) hb; (first | have hR := Arr2.below (Arr2.new _ gx ux nx gy uy ny) hb | have hR := Arr2.below (Arr2.new _ gx ux nx gy uy ny).drew hb | replace hR := Arr2.below hR hb | skip); (first | have hQ := Arr1.below (Arr1.new _ gx ux nx) hb | replace hQ := Arr1.below hQ hb | skip); clear hb)
                | (go_at_call 39; (try clear hS); refine (mul_v (hx.below (s_below (by assumption))).val (hx.below (s_below (by assumption))).val (by omega)).mono ?_; rintro e w6 ⟨v6, rfl, ⟨g6, n6, c6, rfl, ho6, hn6⟩, hb⟩; have hz6 := size_on (s_below (by assumption)) hb; have hS := below_on (s_below (by assumption)) hb; (first | have hR := Arr2.below (Arr2.new _ gx ux nx gy uy ny) hb | have hR := Arr2.below (Arr2.new _ gx ux nx gy uy ny).drew hb | replace hR := Arr2.below hR hb | skip); (first | have hQ := Arr1.below (Arr1.new _ gx ux nx) hb | replace hQ := Arr1.below hQ hb | skip); clear hb))
              refine hK.out _ _ ?_ (fun hHeld2 => ?_)
              · (try dsimp only)
                (first | assumption | exact HS0.out _ (by assumption) | exact HS0.out _ (Below.drew (by assumption)) | exact HS0.out _ (Below.refl _ _).drew | exact HS0.out _ (below_on (s_below (by assumption)) (below_alloc1 _ _)))
              replace hHeld := hHeld2
              clear hK K hHeld2
              (try dsimp only at hHeld)
              (try simp only [List.setIfInBounds_toArray, List.set_cons_zero, List.set_cons_succ])
              refine wpAnyH_ready (rs := [20]) (by kernel_rfl) (by simp) ?_
              refine ready_at 20 ⟨_, rfl⟩ (fun o ho K hK => ?_) ?_
              · simp only [List.getElem?_toArray, List.getElem?_cons_succ, List.getElem?_cons_zero, Option.some.injEq] at ho
                subst ho
                go_simp
                (first
                  | (go_at_call_of 40 b; (try clear hS); refine (rmul_v (h_a.below (s_below (by assumption))) (h_b.below (s_below (by assumption))) (by omega) (by omega)).mono ?_; rintro e w7 ⟨v7, rfl, ⟨A7, m7, d7, rfl, hs7, hn7⟩, hb⟩; have hS := below_on (s_below (by assumption)) hb; have hA7 : Below w6.heap.size w6 w7 := (by first | exact hb | exact below_on (below_alloc1 _ _) hb | exact below_on (below_drew1 _) hb | exact below_on (below_on (below_drew1 _) (below_alloc1 _ _)) hb); replace ho6 := ho6.below hA7; clear hA7; (first | have hR := Arr2.below (Arr2.new _ gx ux nx gy uy ny) hb | have hR := Arr2.below (Arr2.new _ gx ux nx gy uy ny).drew hb | replace hR := Arr2.below hR hb | skip); (first | have hQ := Arr1.below (Arr1.new _ gx ux nx) hb | replace hQ := Arr1.below hQ hb | skip); clear hb)
                  | (go_at_call 40; (try clear hS); refine (rmul_v (h_a.below (s_below (by assumption))) (h_a.below (s_below (by assumption))) (by omega) (by omega)).mono ?_; rintro e w7 ⟨v7, rfl, ⟨A7, m7, d7, rfl, hs7, hn7⟩, hb⟩; have hS := below_on (s_below (by assumption)) hb; have hA7 : Below w6.heap.size w6 w7 := (by first | exact hb | exact below_on (below_alloc1 _ _) hb | exact below_on (below_drew1 _) hb | exact below_on (below_on (below_drew1 _) (below_alloc1 _ _)) hb); replace ho6 := ho6.below hA7; clear hA7; (first | have hR := Arr2.below (Arr2.new _ gx ux nx gy uy ny) hb | have hR := Arr2.below (Arr2.new _ gx ux nx gy uy ny).drew hb | replace hR := Arr2.below hR hb | skip); (first | have hQ := Arr1.below (Arr1.new _ gx ux nx) hb | replace hQ := Arr1.below hQ hb | skip); clear hb))
                refine hK.out _ _ ?_ (fun hHeld2 => ?_)
                · (try dsimp only)
                  (first | assumption | exact HS0.out _ (by assumption) | exact HS0.out _ (Below.drew (by assumption)) | exact HS0.out _ (Below.refl _ _).drew | exact HS0.out _ (below_on (s_below (by assumption)) (below_alloc1 _ _)))
                replace hHeld := hHeld2
                clear hK K hHeld2
                (try dsimp only at hHeld)
                (try simp only [List.setIfInBounds_toArray, List.set_cons_zero, List.set_cons_succ])
                refine wpAnyH_ready (rs := [23]) (by kernel_rfl) (by simp) ?_
                refine ready_at 23 ⟨_, rfl⟩ (fun o ho K hK => ?_) ?_
                · simp only [List.getElem?_toArray, List.getElem?_cons_succ, List.getElem?_cons_zero, Option.some.injEq] at ho
                  subst ho
                  go_simp
                  (first
                    | (go_at_call_of 38 (2 : Nat); (try clear hS); refine (is_two (by first | exact ho6 | exact ho6.below (below_alloc1 _ _)) (by first | exact hs7 | exact hs7.below (below_alloc1 _ _)) (by omega) (by first | exact Arr2.new _ gx ux nx gy uy ny | exact hR) (hx.below (s_below (by assumption))) (hy.below (s_below (by assumption))) (by omega) (by omega) (by have := ho6.base_le; omega) hlx hly (by omega)).mono ?_; rintro e wn ⟨rfl, hg⟩; have hS := below_gb (s_below (by assumption)) hg (by have := ho6.base_le; omega); clear hg ho6 hs7 hz6; (try clear hR); (try clear hQ))
                    | (go_at_call_of 38 (1 : Nat); (try clear hS); refine (is_one (by first | exact ho6 | exact ho6.below (below_alloc1 _ _)) (by first | exact hs7 | exact hs7.below (below_alloc1 _ _)) (by omega) (by first | exact Arr1.new _ gx ux nx | exact hQ) (hx.below (s_below (by assumption))) (by omega) (by have := ho6.base_le; omega) hlx (by omega)).mono ?_; rintro e wn ⟨rfl, hg⟩; have hS := below_gb (s_below (by assumption)) hg (by have := ho6.base_le; omega); clear hg ho6 hs7 hz6; (try clear hR); (try clear hQ)))
                  refine hK.out _ _ ?_ (fun hHeld2 => ?_)
                  · (try dsimp only)
                    (first | assumption | exact HS0.out _ (by assumption) | exact HS0.out _ (Below.drew (by assumption)) | exact HS0.out _ (Below.refl _ _).drew | exact HS0.out _ (below_on (s_below (by assumption)) (below_alloc1 _ _)))
                  replace hHeld := hHeld2
                  clear hK K hHeld2
                  (try dsimp only at hHeld)
                  (try simp only [List.setIfInBounds_toArray, List.set_cons_zero, List.set_cons_succ])
                  refine take_at 24 (by kernel_rfl) (by kernel_rfl) (by kernel_rfl) (fun _ _ _ _ _ h => h) ⟨_, rfl⟩ (by assumption) (fun o ho => ?_)
                  simp only [List.getElem?_toArray, List.getElem?_cons_succ, List.getElem?_cons_zero, Option.some.injEq] at ho
                  subst ho
                  refine ⟨?_, ⟨by rfl, ?_⟩, ?_⟩
                  rotate_left
                  · intro w hSw
                    (try dsimp only at hSw)
                    (go_simp; try with_reducible rfl)
                  (try simp only [Act.put, List.setIfInBounds_toArray, List.set_cons_zero, List.set_cons_succ])
                  exact REST2 _ _ rfl hHeld
                exact AllReadyH.nil
              exact AllReadyH.nil
            exact AllReadyH.nil
          exact AllReadyH.nil
        exact AllReadyH.nil
      refine ready_at 22 ⟨_, rfl⟩ (fun o ho K hK => ?_) ?_
      · simp only [List.getElem?_toArray, List.getElem?_cons_succ, List.getElem?_cons_zero, Option.some.injEq] at ho
        subst ho
        go_simp
        refine hK.out _ _ ?_ (fun hHeld2 => ?_)
        · (try dsimp only)
          (first | assumption | exact HS0.out _ (by assumption) | exact HS0.out _ (Below.drew (by assumption)) | exact HS0.out _ (Below.refl _ _).drew | exact HS0.out _ (below_on (s_below (by assumption)) (below_alloc1 _ _)))
        replace hHeld := hHeld2
        clear hK K hHeld2
        (try dsimp only at hHeld)
        (try simp only [List.setIfInBounds_toArray, List.set_cons_zero, List.set_cons_succ])
        refine wpAnyH_ready (rs := [14]) (by kernel_rfl) (by simp) ?_
        refine ready_at 14 ⟨_, rfl⟩ (fun o ho K hK => ?_) ?_
        · simp only [List.getElem?_toArray, List.getElem?_cons_succ, List.getElem?_cons_zero, Option.some.injEq] at ho
          subst ho
          go_simp
          (first
            | (go_at_call_of 35 gx; (try clear hS); refine (list_any _ gx nx _ (by omega)).mono ?_; rintro e wn ⟨rfl, hb⟩; have hS := below_on (s_below (by assumption)) hb; (first | have hR := Arr2.below (Arr2.new _ gx ux nx gy uy ny) hb | have hR := Arr2.below (Arr2.new _ gx ux nx gy uy ny).drew hb | replace hR := Arr2.below hR hb | skip); (first | have hQ := Arr1.below (Arr1.new _ gx ux nx) hb | replace hQ := Arr1.below hQ hb | skip); clear hb)
            | (go_at_call_of 35 gy; (try clear hS); refine (list_any _ gy ny _ (by omega)).mono ?_; rintro e wn ⟨rfl, hb⟩; have hS := below_on (s_below (by assumption)) hb; (first | have hR := Arr2.below (Arr2.new _ gx ux nx gy uy ny) hb | have hR := Arr2.below (Arr2.new _ gx ux nx gy uy ny).drew hb | replace hR := Arr2.below hR hb | skip); (first | have hQ := Arr1.below (Arr1.new _ gx ux nx) hb | replace hQ := Arr1.below hQ hb | skip); clear hb))
          refine hK.out _ _ ?_ (fun hHeld2 => ?_)
          · (try dsimp only)
            (first | assumption | exact HS0.out _ (by assumption) | exact HS0.out _ (Below.drew (by assumption)) | exact HS0.out _ (Below.refl _ _).drew | exact HS0.out _ (below_on (s_below (by assumption)) (below_alloc1 _ _)))
          replace hHeld := hHeld2
          clear hK K hHeld2
          (try dsimp only at hHeld)
          (try simp only [List.setIfInBounds_toArray, List.set_cons_zero, List.set_cons_succ])
          refine wpAnyH_ready (rs := [16]) (by kernel_rfl) (by simp) ?_
          refine ready_at 16 ⟨_, rfl⟩ (fun o ho K hK => ?_) ?_
          · simp only [List.getElem?_toArray, List.getElem?_cons_succ, List.getElem?_cons_zero, Option.some.injEq] at ho
            subst ho
            go_simp
            (first
              | (go_at_call_of 35 gx; (try clear hS); refine (list_any _ gx nx _ (by omega)).mono ?_; rintro e wn ⟨rfl, hb⟩; have hS := below_on (s_below (by assumption)) hb; (first | have hR := Arr2.below (Arr2.new _ gx ux nx gy uy ny) hb | have hR := Arr2.below (Arr2.new _ gx ux nx gy uy ny).drew hb | replace hR := Arr2.below hR hb | skip); (first | have hQ := Arr1.below (Arr1.new _ gx ux nx) hb | replace hQ := Arr1.below hQ hb | skip); clear hb)
              | (go_at_call_of 35 gy; (try clear hS); refine (list_any _ gy ny _ (by omega)).mono ?_; rintro e wn ⟨rfl, hb⟩; have hS := below_on (s_below (by assumption)) hb; (first | have hR := Arr2.below (Arr2.new _ gx ux nx gy uy ny) hb | have hR := Arr2.below (Arr2.new _ gx ux nx gy uy ny).drew hb | replace hR := Arr2.below hR hb | skip); (first | have hQ := Arr1.below (Arr1.new _ gx ux nx) hb | replace hQ := Arr1.below hQ hb | skip); clear hb))
            refine hK.out _ _ ?_ (fun hHeld2 => ?_)
            · (try dsimp only)
              (first | assumption | exact HS0.out _ (by assumption) | exact HS0.out _ (Below.drew (by assumption)) | exact HS0.out _ (Below.refl _ _).drew | exact HS0.out _ (below_on (s_below (by assumption)) (below_alloc1 _ _)))
            replace hHeld := hHeld2
            clear hK K hHeld2
            (try dsimp only at hHeld)
            (try simp only [List.setIfInBounds_toArray, List.set_cons_zero, List.set_cons_succ])
            refine wpAnyH_ready (rs := [17]) (by kernel_rfl) (by simp) ?_
            refine ready_at 17 ⟨_, rfl⟩ (fun o ho K hK => ?_) ?_
            · simp only [List.getElem?_toArray, List.getElem?_cons_succ, List.getElem?_cons_zero, Option.some.injEq] at ho
              subst ho
              go_simp
              (first
                | (go_at_call_of 39 gy; (try clear hS); refine (mul_v (hx.below (s_below (by assumption))).val (hy.below (s_below (by assumption))).val (by omega)).mono ?_; rintro e w6 ⟨v6, rfl, ⟨g6, n6, c6, rfl, ho6, hn6⟩, hb⟩; have hz6 := size_on (s_below (by assumption)) hb; have hS := below_on (s_below (by assumption)) hb; (first | have hR := Arr2.below (Arr2.new _ gx ux nx gy uy ny) hb | have hR := Arr2.below (Arr2.new _ gx ux nx gy uy ny).drew hb | replace hR := Arr2.below hR hb | skip); (first | have hQ := Arr1.below (Arr1.new _ gx ux nx) hb | replace hQ := Arr1.below hQ hb | skip); clear hb)
                | (go_at_call 39; (try clear hS); refine (mul_v (hx.below (s_below (by assumption))).val (hx.below (s_below (by assumption))).val (by omega)).mono ?_; rintro e w6 ⟨v6, rfl, ⟨g6, n6, c6, rfl, ho6, hn6⟩, hb⟩; have hz6 := size_on (s_below (by assumption)) hb; have hS := below_on (s_below (by assumption)) hb; (first | have hR := Arr2.below (Arr2.new _ gx ux nx gy uy ny) hb | have hR := Arr2.below (Arr2.new _ gx ux nx gy uy ny).drew hb | replace hR := Arr2.below hR hb | skip); (first | have hQ := Arr1.below (Arr1.new _ gx ux nx) hb | replace hQ := Arr1.below hQ hb | skip); clear hb))
              refine hK.out _ _ ?_ (fun hHeld2 => ?_)
              · (try dsimp only)
                (first | assumption | exact HS0.out _ (by assumption) | exact HS0.out _ (Below.drew (by assumption)) | exact HS0.out _ (Below.refl _ _).drew | exact HS0.out _ (below_on (s_below (by assumption)) (below_alloc1 _ _)))
              replace hHeld := hHeld2
              clear hK K hHeld2
              (try dsimp only at hHeld)
              (try simp only [List.setIfInBounds_toArray, List.set_cons_zero, List.set_cons_succ])
              refine wpAnyH_ready (rs := [20]) (by kernel_rfl) (by simp) ?_
              refine ready_at 20 ⟨_, rfl⟩ (fun o ho K hK => ?_) ?_
              · simp only [List.getElem?_toArray, List.getElem?_cons_succ, List.getElem?_cons_zero, Option.some.injEq] at ho
                subst ho
                go_simp
                (first
                  | (go_at_call_of 40 b; (try clear hS); refine (rmul_v (h_a.below (s_below (by assumption))) (h_b.below (s_below (by assumption))) (by omega) (by omega)).mono ?_; rintro e w7 ⟨v7, rfl, ⟨A7, m7, d7, rfl, hs7, hn7⟩, hb⟩; have hS := below_on (s_below (by assumption)) hb; have hA7 : Below w6.heap.size w6 w7 := (by first | exact hb | exact below_on (below_alloc1 _ _) hb | exact below_on (below_drew1 _) hb | exact below_on (below_on (below_drew1 _) (below_alloc1 _ _)) hb); replace ho6 := ho6.below hA7; clear hA7; (first | have hR := Arr2.below (Arr2.new _ gx ux nx gy uy ny) hb | have hR := Arr2.below (Arr2.new _ gx ux nx gy uy ny).drew hb | replace hR := Arr2.below hR hb | skip); (first | have hQ := Arr1.below (Arr1.new _ gx ux nx) hb | replace hQ := Arr1.below hQ hb | skip); clear hb)
                  | (go_at_call 40; (try clear hS); refine (rmul_v (h_a.below (s_below (by assumption))) (h_a.below (s_below (by assumption))) (by omega) (by omega)).mono ?_; rintro e w7 ⟨v7, rfl, ⟨A7, m7, d7, rfl, hs7, hn7⟩, hb⟩; have hS := below_on (s_below (by assumption)) hb; have hA7 : Below w6.heap.size w6 w7 := (by first | exact hb | exact below_on (below_alloc1 _ _) hb | exact below_on (below_drew1 _) hb | exact below_on (below_on (below_drew1 _) (below_alloc1 _ _)) hb); replace ho6 := ho6.below hA7; clear hA7; (first | have hR := Arr2.below (Arr2.new _ gx ux nx gy uy ny) hb | have hR := Arr2.below (Arr2.new _ gx ux nx gy uy ny).drew hb | replace hR := Arr2.below hR hb | skip); (first | have hQ := Arr1.below (Arr1.new _ gx ux nx) hb | replace hQ := Arr1.below hQ hb | skip); clear hb))
                refine hK.out _ _ ?_ (fun hHeld2 => ?_)
                · (try dsimp only)
                  (first | assumption | exact HS0.out _ (by assumption) | exact HS0.out _ (Below.drew (by assumption)) | exact HS0.out _ (Below.refl _ _).drew | exact HS0.out _ (below_on (s_below (by assumption)) (below_alloc1 _ _)))
                replace hHeld := hHeld2
                clear hK K hHeld2
                (try dsimp only at hHeld)
                (try simp only [List.setIfInBounds_toArray, List.set_cons_zero, List.set_cons_succ])
                refine wpAnyH_ready (rs := [23]) (by kernel_rfl) (by simp) ?_
                refine ready_at 23 ⟨_, rfl⟩ (fun o ho K hK => ?_) ?_
                · simp only [List.getElem?_toArray, List.getElem?_cons_succ, List.getElem?_cons_zero, Option.some.injEq] at ho
                  subst ho
                  go_simp
                  (first
                    | (go_at_call_of 38 (2 : Nat); (try clear hS); refine (is_two (by first | exact ho6 | exact ho6.below (below_alloc1 _ _)) (by first | exact hs7 | exact hs7.below (below_alloc1 _ _)) (by omega) (by first | exact Arr2.new _ gx ux nx gy uy ny | exact hR) (hx.below (s_below (by assumption))) (hy.below (s_below (by assumption))) (by omega) (by omega) (by have := ho6.base_le; omega) hlx hly (by omega)).mono ?_; rintro e wn ⟨rfl, hg⟩; have hS := below_gb (s_below (by assumption)) hg (by have := ho6.base_le; omega); clear hg ho6 hs7 hz6; (try clear hR); (try clear hQ))
                    | (go_at_call_of 38 (1 : Nat); (try clear hS); refine (is_one (by first | exact ho6 | exact ho6.below (below_alloc1 _ _)) (by first | exact hs7 | exact hs7.below (below_alloc1 _ _)) (by omega) (by first | exact Arr1.new _ gx ux nx | exact hQ) (hx.below (s_below (by assumption))) (by omega) (by have := ho6.base_le; omega) hlx (by omega)).mono ?_; rintro e wn ⟨rfl, hg⟩; have hS := below_gb (s_below (by assumption)) hg (by have := ho6.base_le; omega); clear hg ho6 hs7 hz6; (try clear hR); (try clear hQ)))
                  refine hK.out _ _ ?_ (fun hHeld2 => ?_)
                  · (try dsimp only)
                    (first | assumption | exact HS0.out _ (by assumption) | exact HS0.out _ (Below.drew (by assumption)) | exact HS0.out _ (Below.refl _ _).drew | exact HS0.out _ (below_on (s_below (by assumption)) (below_alloc1 _ _)))
                  replace hHeld := hHeld2
                  clear hK K hHeld2
                  (try dsimp only at hHeld)
                  (try simp only [List.setIfInBounds_toArray, List.set_cons_zero, List.set_cons_succ])
                  refine take_at 24 (by kernel_rfl) (by kernel_rfl) (by kernel_rfl) (fun _ _ _ _ _ h => h) ⟨_, rfl⟩ (by assumption) (fun o ho => ?_)
                  simp only [List.getElem?_toArray, List.getElem?_cons_succ, List.getElem?_cons_zero, Option.some.injEq] at ho
                  subst ho
                  refine ⟨?_, ⟨by rfl, ?_⟩, ?_⟩
                  rotate_left
                  · intro w hSw
                    (try dsimp only at hSw)
                    (go_simp; try with_reducible rfl)
                  (try simp only [Act.put, List.setIfInBounds_toArray, List.set_cons_zero, List.set_cons_succ])
                  exact REST2 _ _ rfl hHeld
                exact AllReadyH.nil
              exact AllReadyH.nil
            exact AllReadyH.nil
          exact AllReadyH.nil
        exact AllReadyH.nil
      exact AllReadyH.nil
    refine take_at 0 (by kernel_rfl) (by kernel_rfl) (by kernel_rfl) (fun _ _ _ _ _ h => h) ⟨_, rfl⟩ (by assumption) (fun o ho => ?_)
    simp only [List.getElem?_toArray, List.getElem?_cons_zero, Option.some.injEq] at ho
    subst ho
    refine ⟨?_, ⟨by rfl, ?_⟩, ?_⟩
    rotate_left
    · intro w hSw
      (try dsimp only at hSw)
      (go_simp; try with_reducible rfl)
    (try simp only [Act.put, List.setIfInBounds_toArray, List.set_cons_zero, List.set_cons_succ])
    refine take_at 2 (by kernel_rfl) (by kernel_rfl) (by kernel_rfl) (fun _ _ _ _ _ h => h) ⟨_, rfl⟩ (by assumption) (fun o ho => ?_)
    simp only [List.getElem?_toArray, List.getElem?_cons_succ, List.getElem?_cons_zero, Option.some.injEq] at ho
    subst ho
    refine ⟨?_, ⟨by rfl, ?_⟩, ?_⟩
    rotate_left
    · intro w hSw
      (try dsimp only at hSw)
      (go_simp; try with_reducible rfl)
    (try simp only [Act.put, List.setIfInBounds_toArray, List.set_cons_zero, List.set_cons_succ])
    refine take_at 5 (by kernel_rfl) (by kernel_rfl) (by kernel_rfl) (fun _ _ _ _ _ h => h) ⟨_, rfl⟩ (by assumption) (fun o ho => ?_)
    simp only [List.getElem?_toArray, List.getElem?_cons_succ, List.getElem?_cons_zero, Option.some.injEq] at ho
    subst ho
    refine ⟨?_, ⟨by rfl, ?_⟩, ?_⟩
    rotate_left
    · intro w hSw
      (try dsimp only at hSw)
      (go_simp; try with_reducible rfl)
    (try simp only [Act.put, List.setIfInBounds_toArray, List.set_cons_zero, List.set_cons_succ])
    refine take_at 6 (by kernel_rfl) (by kernel_rfl) (by kernel_rfl) (fun _ _ _ _ _ h => h) ⟨_, rfl⟩ (by assumption) (fun o ho => ?_)
    simp only [List.getElem?_toArray, List.getElem?_cons_succ, List.getElem?_cons_zero, Option.some.injEq] at ho
    subst ho
    refine ⟨?_, ⟨by rfl, ?_⟩, ?_⟩
    rotate_left
    · intro w hSw
      (try dsimp only at hSw)
      (go_simp; try with_reducible rfl)
    (try simp only [Act.put, List.setIfInBounds_toArray, List.set_cons_zero, List.set_cons_succ])
    refine take_at 8 (by kernel_rfl) (by kernel_rfl) (by kernel_rfl) (fun _ _ _ _ _ h => h) ⟨_, rfl⟩ (by assumption) (fun o ho => ?_)
    simp only [List.getElem?_toArray, List.getElem?_cons_succ, List.getElem?_cons_zero, Option.some.injEq] at ho
    subst ho
    refine ⟨?_, ⟨by rfl, ?_⟩, ?_⟩
    rotate_left
    · intro w hSw
      (try dsimp only at hSw)
      (go_simp; try with_reducible rfl)
    (try simp only [Act.put, List.setIfInBounds_toArray, List.set_cons_zero, List.set_cons_succ])
    refine take_at 9 (by kernel_rfl) (by kernel_rfl) (by kernel_rfl) (fun _ _ _ _ _ h => h) ⟨_, rfl⟩ (by assumption) (fun o ho => ?_)
    simp only [List.getElem?_toArray, List.getElem?_cons_succ, List.getElem?_cons_zero, Option.some.injEq] at ho
    subst ho
    refine ⟨?_, ⟨by rfl, ?_⟩, ?_⟩
    rotate_left
    · intro w hSw
      (try dsimp only at hSw)
      (go_simp; try with_reducible rfl)
    (try simp only [Act.put, List.setIfInBounds_toArray, List.set_cons_zero, List.set_cons_succ])
    refine wpAnyH_ready (rs := [1, 10]) (by kernel_rfl) (by simp) ?_
    refine ready_at 1 ⟨_, rfl⟩ (fun o ho K hK => ?_) ?_
    · simp only [List.getElem?_toArray, List.getElem?_cons_succ, List.getElem?_cons_zero, Option.some.injEq] at ho
      subst ho
      go_simp
      (first
        | (go_at_call_of 35 gx; (try clear hS); refine (list_any _ gx nx _ (by omega)).mono ?_; rintro e wn ⟨rfl, hb⟩; have hS := below_on (s_below (by assumption)) hb; (first | have hR := Arr2.below (Arr2.new _ gx ux nx gy uy ny) hb | have hR := Arr2.below (Arr2.new _ gx ux nx gy uy ny).drew hb | replace hR := Arr2.below hR hb | skip); (first | have hQ := Arr1.below (Arr1.new _ gx ux nx) hb | replace hQ := Arr1.below hQ hb | skip); clear hb)
        | (go_at_call_of 35 gy; (try clear hS); refine (list_any _ gy ny _ (by omega)).mono ?_; rintro e wn ⟨rfl, hb⟩; have hS := below_on (s_below (by assumption)) hb; (first | have hR := Arr2.below (Arr2.new _ gx ux nx gy uy ny) hb | have hR := Arr2.below (Arr2.new _ gx ux nx gy uy ny).drew hb | replace hR := Arr2.below hR hb | skip); (first | have hQ := Arr1.below (Arr1.new _ gx ux nx) hb | replace hQ := Arr1.below hQ hb | skip); clear hb))
      refine hK.out _ _ ?_ (fun hHeld2 => ?_)
      · (try dsimp only)
        (first | assumption | exact HS0.out _ (by assumption) | exact HS0.out _ (Below.drew (by assumption)) | exact HS0.out _ (Below.refl _ _).drew | exact HS0.out _ (below_on (s_below (by assumption)) (below_alloc1 _ _)))
      replace hHeld := hHeld2
      clear hK K hHeld2
      (try dsimp only at hHeld)
      (try simp only [List.setIfInBounds_toArray, List.set_cons_zero, List.set_cons_succ])
      refine wpAnyH_ready (rs := [3, 10]) (by kernel_rfl) (by simp) ?_
      refine ready_at 3 ⟨_, rfl⟩ (fun o ho K hK => ?_) ?_
      · simp only [List.getElem?_toArray, List.getElem?_cons_succ, List.getElem?_cons_zero, Option.some.injEq] at ho
        subst ho
        go_simp
        (first
          | (go_at_call_of 35 gx; (try clear hS); refine (list_any _ gx nx _ (by omega)).mono ?_; rintro e wn ⟨rfl, hb⟩; have hS := below_on (s_below (by assumption)) hb; (first | have hR := Arr2.below (Arr2.new _ gx ux nx gy uy ny) hb | have hR := Arr2.below (Arr2.new _ gx ux nx gy uy ny).drew hb | replace hR := Arr2.below hR hb | skip); (first | have hQ := Arr1.below (Arr1.new _ gx ux nx) hb | replace hQ := Arr1.below hQ hb | skip); clear hb)
          | (go_at_call_of 35 gy; (try clear hS); refine (list_any _ gy ny _ (by omega)).mono ?_; rintro e wn ⟨rfl, hb⟩; have hS := below_on (s_below (by assumption)) hb; (first | have hR := Arr2.below (Arr2.new _ gx ux nx gy uy ny) hb | have hR := Arr2.below (Arr2.new _ gx ux nx gy uy ny).drew hb | replace hR := Arr2.below hR hb | skip); (first | have hQ := Arr1.below (Arr1.new _ gx ux nx) hb | replace hQ := Arr1.below hQ hb | skip); clear hb))
        refine hK.out _ _ ?_ (fun hHeld2 => ?_)
        · (try dsimp only)
          (first | assumption | exact HS0.out _ (by assumption) | exact HS0.out _ (Below.drew (by assumption)) | exact HS0.out _ (Below.refl _ _).drew | exact HS0.out _ (below_on (s_below (by assumption)) (below_alloc1 _ _)))
        replace hHeld := hHeld2
        clear hK K hHeld2
        (try dsimp only at hHeld)
        (try simp only [List.setIfInBounds_toArray, List.set_cons_zero, List.set_cons_succ])
        refine wpAnyH_ready (rs := [4, 10]) (by kernel_rfl) (by simp) ?_
        refine ready_at 4 ⟨_, rfl⟩ (fun o ho K hK => ?_) ?_
        · simp only [List.getElem?_toArray, List.getElem?_cons_succ, List.getElem?_cons_zero, Option.some.injEq] at ho
          subst ho
          go_simp
          (first
            | (go_at_call_of 39 gy; (try clear hS); refine (mul_v (hx.below (s_below (by assumption))).val (hy.below (s_below (by assumption))).val (by omega)).mono ?_; rintro e w6 ⟨v6, rfl, ⟨g6, n6, c6, rfl, ho6, hn6⟩, hb⟩; have hz6 := size_on (s_below (by assumption)) hb; have hS := below_on (s_below (by assumption)) hb; (first | have hR := Arr2.below (Arr2.new _ gx ux nx gy uy ny) hb | have hR := Arr2.below (Arr2.new _ gx ux nx gy uy ny).drew hb | replace hR := Arr2.below hR hb | skip); (first | have hQ := Arr1.below (Arr1.new _ gx ux nx) hb | replace hQ := Arr1.below hQ hb | skip); clear hb)
            | (go_at_call 39; (try clear hS); refine (mul_v (hx.below (s_below (by assumption))).val (hx.below (s_below (by assumption))).val (by omega)).mono ?_; rintro e w6 ⟨v6, rfl, ⟨g6, n6, c6, rfl, ho6, hn6⟩, hb⟩; have hz6 := size_on (s_below (by assumption)) hb; have hS := below_on (s_below (by assumption)) hb; (first | have hR := Arr2.below (Arr2.new _ gx ux nx gy uy ny) hb | have hR := Arr2.below (Arr2.new _ gx ux nx gy uy ny).drew hb | replace hR := Arr2.below hR hb | skip); (first | have hQ := Arr1.below (Arr1.new _ gx ux nx) hb | replace hQ := Arr1.below hQ hb | skip); clear hb))
          refine hK.out _ _ ?_ (fun hHeld2 => ?_)
          · (try dsimp only)
            (first | assumption | exact HS0.out _ (by assumption) | exact HS0.out _ (Below.drew (by assumption)) | exact HS0.out _ (Below.refl _ _).drew | exact HS0.out _ (below_on (s_below (by assumption)) (below_alloc1 _ _)))
          replace hHeld := hHeld2
          clear hK K hHeld2
          (try dsimp only at hHeld)
          (try simp only [List.setIfInBounds_toArray, List.set_cons_zero, List.set_cons_succ])
          refine wpAnyH_ready (rs := [7, 10]) (by kernel_rfl) (by simp) ?_
          refine ready_at 7 ⟨_, rfl⟩ (fun o ho K hK => ?_) ?_
          · simp only [List.getElem?_toArray, List.getElem?_cons_succ, List.getElem?_cons_zero, Option.some.injEq] at ho
            subst ho
            go_simp
            (first
              | (go_at_call_of 40 b; (try clear hS); refine (rmul_v (h_a.below (s_below (by assumption))) (h_b.below (s_below (by assumption))) (by omega) (by omega)).mono ?_; rintro e w7 ⟨v7, rfl, ⟨A7, m7, d7, rfl, hs7, hn7⟩, hb⟩; have hS := below_on (s_below (by assumption)) hb; have hA7 : Below w6.heap.size w6 w7 := (by first | exact hb | exact below_on (below_alloc1 _ _) hb | exact below_on (below_drew1 _) hb | exact below_on (below_on (below_drew1 _) (below_alloc1 _ _)) hb); replace ho6 := ho6.below hA7; clear hA7; (first | have hR := Arr2.below (Arr2.new _ gx ux nx gy uy ny) hb | have hR := Arr2.below (Arr2.new _ gx ux nx gy uy ny).drew hb | replace hR := Arr2.below hR hb | skip); (first | have hQ := Arr1.below (Arr1.new _ gx ux nx) hb | replace hQ := Arr1.below hQ hb | skip); clear hb)
              | (go_at_call 40; (try clear hS); refine (rmul_v (h_a.below (s_below (by assumption))) (h_a.below (s_below (by assumption))) (by omega) (by omega)).mono ?_; rintro e w7 ⟨v7, rfl, ⟨A7, m7, d7, rfl, hs7, hn7⟩, hb⟩; have hS := below_on (s_below (by assumption)) hb; have hA7 : Below w6.heap.size w6 w7 := (by first | exact hb | exact below_on (below_alloc1 _ _) hb | exact below_on (below_drew1 _) hb | exact below_on (below_on (below_drew1 _) (below_alloc1 _ _)) hb); replace ho6 := ho6.below hA7; clear hA7; (first | have hR := Arr2.below (Arr2.new _ gx ux nx gy uy ny) hb | have hR := Arr2.below (Arr2.new _ gx ux nx gy uy ny).drew hb | replace hR := Arr2.below hR hb | skip); (first | have hQ := Arr1.below (Arr1.new _ gx ux nx) hb | replace hQ := Arr1.below hQ hb | skip); clear hb))
            refine hK.out _ _ ?_ (fun hHeld2 => ?_)
            · (try dsimp only)
              (first | assumption | exact HS0.out _ (by assumption) | exact HS0.out _ (Below.drew (by assumption)) | exact HS0.out _ (Below.refl _ _).drew | exact HS0.out _ (below_on (s_below (by assumption)) (below_alloc1 _ _)))
            replace hHeld := hHeld2
            clear hK K hHeld2
            (try dsimp only at hHeld)
            (try simp only [List.setIfInBounds_toArray, List.set_cons_zero, List.set_cons_succ])
            refine wpAnyH_ready (rs := [10]) (by kernel_rfl) (by simp) ?_
            refine ready_at 10 ⟨_, rfl⟩ (fun o ho K hK => ?_) ?_
            · simp only [List.getElem?_toArray, List.getElem?_cons_succ, List.getElem?_cons_zero, Option.some.injEq] at ho
              subst ho
              go_simp
              refine hK.out _ _ ?_ (fun hHeld2 => ?_)
              · (try dsimp only)
                (first | assumption | exact HS0.out _ (by assumption) | exact HS0.out _ (Below.drew (by assumption)) | exact HS0.out _ (Below.refl _ _).drew | exact HS0.out _ (below_on (s_below (by assumption)) (below_alloc1 _ _)))
              replace hHeld := hHeld2
              clear hK K hHeld2
              (try dsimp only at hHeld)
              (try simp only [List.setIfInBounds_toArray, List.set_cons_zero, List.set_cons_succ])
              refine wpAnyH_ready (rs := [11]) (by kernel_rfl) (by simp) ?_
              refine ready_at 11 ⟨_, rfl⟩ (fun o ho K hK => ?_) ?_
              · simp only [List.getElem?_toArray, List.getElem?_cons_succ, List.getElem?_cons_zero, Option.some.injEq] at ho
                subst ho
                go_simp
                (first
                  | (go_at_call_of 38 (2 : Nat); (try clear hS); refine (is_two (by first | exact ho6 | exact ho6.below (below_alloc1 _ _)) (by first | exact hs7 | exact hs7.below (below_alloc1 _ _)) (by omega) (by first | exact Arr2.new _ gx ux nx gy uy ny | exact hR) (hx.below (s_below (by assumption))) (hy.below (s_below (by assumption))) (by omega) (by omega) (by have := ho6.base_le; omega) hlx hly (by omega)).mono ?_; rintro e wn ⟨rfl, hg⟩; have hS := below_gb (s_below (by assumption)) hg (by have := ho6.base_le; omega); clear hg ho6 hs7 hz6; (try clear hR); (try clear hQ))
                  | (go_at_call_of 38 (1 : Nat); (try clear hS); refine (is_one (by first | exact ho6 | exact ho6.below (below_alloc1 _ _)) (by first | exact hs7 | exact hs7.below (below_alloc1 _ _)) (by omega) (by first | exact Arr1.new _ gx ux nx | exact hQ) (hx.below (s_below (by assumption))) (by omega) (by have := ho6.base_le; omega) hlx (by omega)).mono ?_; rintro e wn ⟨rfl, hg⟩; have hS := below_gb (s_below (by assumption)) hg (by have := ho6.base_le; omega); clear hg ho6 hs7 hz6; (try clear hR); (try clear hQ)))
                refine hK.out _ _ ?_ (fun hHeld2 => ?_)
                · (try dsimp only)
                  (first | assumption | exact HS0.out _ (by assumption) | exact HS0.out _ (Below.drew (by assumption)) | exact HS0.out _ (Below.refl _ _).drew | exact HS0.out _ (below_on (s_below (by assumption)) (below_alloc1 _ _)))
                replace hHeld := hHeld2
                clear hK K hHeld2
                (try dsimp only at hHeld)
                (try simp only [List.setIfInBounds_toArray, List.set_cons_zero, List.set_cons_succ])
                exact REST1 _ _ rfl hHeld
              exact AllReadyH.nil
            exact AllReadyH.nil
          refine ready_at 10 ⟨_, rfl⟩ (fun o ho K hK => ?_) ?_
          · simp only [List.getElem?_toArray, List.getElem?_cons_succ, List.getElem?_cons_zero, Option.some.injEq] at ho
            subst ho
            go_simp
            refine hK.out _ _ ?_ (fun hHeld2 => ?_)
            · (try dsimp only)
              (first | assumption | exact HS0.out _ (by assumption) | exact HS0.out _ (Below.drew (by assumption)) | exact HS0.out _ (Below.refl _ _).drew | exact HS0.out _ (below_on (s_below (by assumption)) (below_alloc1 _ _)))
            replace hHeld := hHeld2
            clear hK K hHeld2
            (try dsimp only at hHeld)
            (try simp only [List.setIfInBounds_toArray, List.set_cons_zero, List.set_cons_succ])
            refine wpAnyH_ready (rs := [7]) (by kernel_rfl) (by simp) ?_
            refine ready_at 7 ⟨_, rfl⟩ (fun o ho K hK => ?_) ?_
            · simp only [List.getElem?_toArray, List.getElem?_cons_succ, List.getElem?_cons_zero, Option.some.injEq] at ho
              subst ho
              go_simp
              (first
                | (go_at_call_of 40 b; (try clear hS); refine (rmul_v (h_a.below (s_below (by assumption))) (h_b.below (s_below (by assumption))) (by omega) (by omega)).mono ?_; rintro e w7 ⟨v7, rfl, ⟨A7, m7, d7, rfl, hs7, hn7⟩, hb⟩; have hS := below_on (s_below (by assumption)) hb; have hA7 : Below w6.heap.size w6 w7 := (by first | exact hb | exact below_on (below_alloc1 _ _) hb | exact below_on (below_drew1 _) hb | exact below_on (below_on (below_drew1 _) (below_alloc1 _ _)) hb); replace ho6 := ho6.below hA7; clear hA7; (first | have hR := Arr2.below (Arr2.new _ gx ux nx gy uy ny) hb | have hR := Arr2.below (Arr2.new _ gx ux nx gy uy ny).drew hb | replace hR := Arr2.below hR hb | skip); (first | have hQ := Arr1.below (Arr1.new _ gx ux nx) hb | replace hQ := Arr1.below hQ hb | skip); clear hb)
                | (go_at_call 40; (try clear hS); refine (rmul_v (h_a.below (s_below (by assumption))) (h_a.below (s_below (by assumption))) (by omega) (by omega)).mono ?_; rintro e w7 ⟨v7, rfl, ⟨A7, m7, d7, rfl, hs7, hn7⟩, hb⟩; have hS := below_on (s_below (by assumption)) hb; have hA7 : Below w6.heap.size w6 w7 := (by first | exact hb | exact below_on (below_alloc1 _ _) hb | exact below_on (below_drew1 _) hb | exact below_on (below_on (below_drew1 _) (below_alloc1 _ _)) hb); replace ho6 := ho6.below hA7; clear hA7; (first | have hR := Arr2.below (Arr2.new _ gx ux nx gy uy ny) hb | have hR := Arr2.below (Arr2.new _ gx ux nx gy uy ny).drew hb | replace hR := Arr2.below hR hb | skip); (first | have hQ := Arr1.below (Arr1.new _ gx ux nx) hb | replace hQ := Arr1.below hQ hb | skip); clear hb))
              refine hK.out _ _ ?_ (fun hHeld2 => ?_)
              · (try dsimp only)
                (first | assumption | exact HS0.out _ (by assumption) | exact HS0.out _ (Below.drew (by assumption)) | exact HS0.out _ (Below.refl _ _).drew | exact HS0.out _ (below_on (s_below (by assumption)) (below_alloc1 _ _)))
              replace hHeld := hHeld2
              clear hK K hHeld2
              (try dsimp only at hHeld)
              (try simp only [List.setIfInBounds_toArray, List.set_cons_zero, List.set_cons_succ])
              refine wpAnyH_ready (rs := [11]) (by kernel_rfl) (by simp) ?_
              refine ready_at 11 ⟨_, rfl⟩ (fun o ho K hK => ?_) ?_
              · simp only [List.getElem?_toArray, List.getElem?_cons_succ, List.getElem?_cons_zero, Option.some.injEq] at ho
                subst ho
                go_simp
                (first
                  | (go_at_call_of 38 (2 : Nat); (try clear hS); refine (is_two (by first | exact ho6 | exact ho6.below (below_alloc1 _ _)) (by first | exact hs7 | exact hs7.below (below_alloc1 _ _)) (by omega) (by first | exact Arr2.new _ gx ux nx gy uy ny | exact hR) (hx.below (s_below (by assumption))) (hy.below (s_below (by assumption))) (by omega) (by omega) (by have := ho6.base_le; omega) hlx hly (by omega)).mono ?_; rintro e wn ⟨rfl, hg⟩; have hS := below_gb (s_below (by assumption)) hg (by have := ho6.base_le; omega); clear hg ho6 hs7 hz6; (try clear hR); (try clear hQ))
                  | (go_at_call_of 38 (1 : Nat); (try clear hS); refine (is_one (by first | exact ho6 | exact ho6.below (below_alloc1 _ _)) (by first | exact hs7 | exact hs7.below (below_alloc1 _ _)) (by omega) (by first | exact Arr1.new _ gx ux nx | exact hQ) (hx.below (s_below (by assumption))) (by omega) (by have := ho6.base_le; omega) hlx (by omega)).mono ?_; rintro e wn ⟨rfl, hg⟩; have hS := below_gb (s_below (by assumption)) hg (by have := ho6.base_le; omega); clear hg ho6 hs7 hz6; (try clear hR); (try clear hQ)))
                refine hK.out _ _ ?_ (fun hHeld2 => ?_)
                · (try dsimp only)
                  (first | assumption | exact HS0.out _ (by assumption) | exact HS0.out _ (Below.drew (by assumption)) | exact HS0.out _ (Below.refl _ _).drew | exact HS0.out _ (below_on (s_below (by assumption)) (below_alloc1 _ _)))
                replace hHeld := hHeld2
                clear hK K hHeld2
                (try dsimp only at hHeld)
                (try simp only [List.setIfInBounds_toArray, List.set_cons_zero, List.set_cons_succ])
                exact REST1 _ _ rfl hHeld
              exact AllReadyH.nil
            exact AllReadyH.nil
          exact AllReadyH.nil
        refine ready_at 10 ⟨_, rfl⟩ (fun o ho K hK => ?_) ?_
        · simp only [List.getElem?_toArray, List.getElem?_cons_succ, List.getElem?_cons_zero, Option.some.injEq] at ho
          subst ho
          go_simp
          refine hK.out _ _ ?_ (fun hHeld2 => ?_)
          · (try dsimp only)
            (first | assumption | exact HS0.out _ (by assumption) | exact HS0.out _ (Below.drew (by assumption)) | exact HS0.out _ (Below.refl _ _).drew | exact HS0.out _ (below_on (s_below (by assumption)) (below_alloc1 _ _)))
          replace hHeld := hHeld2
          clear hK K hHeld2
          (try dsimp only at hHeld)
          (try simp only [List.setIfInBounds_toArray, List.set_cons_zero, List.set_cons_succ])
          refine wpAnyH_ready (rs := [4]) (by kernel_rfl) (by simp) ?_
          refine ready_at 4 ⟨_, rfl⟩ (fun o ho K hK => ?_) ?_
          · simp only [List.getElem?_toArray, List.getElem?_cons_succ, List.getElem?_cons_zero, Option.some.injEq] at ho
            subst ho
            go_simp
            (first
              | (go_at_call_of 39 gy; (try clear hS); refine (mul_v (hx.below (s_below (by assumption))).val (hy.below (s_below (by assumption))).val (by omega)).mono ?_; rintro e w6 ⟨v6, rfl, ⟨g6, n6, c6, rfl, ho6, hn6⟩, hb⟩; have hz6 := size_on (s_below (by assumption)) hb; have hS := below_on (s_below (by assumption)) hb; (first | have hR := Arr2.below (Arr2.new _ gx ux nx gy uy ny) hb | have hR := Arr2.below (Arr2.new _ gx ux nx gy uy ny).drew hb | replace hR := Arr2.below hR hb | skip); (first | have hQ := Arr1.below (Arr1.new _ gx ux nx) hb | replace hQ := Arr1.below hQ hb | skip); clear hb)
              | (go_at_call 39; (try clear hS); refine (mul_v (hx.below (s_below (by assumption))).val (hx.below (s_below (by assumption))).val (by omega)).mono ?_; rintro e w6 ⟨v6, rfl, ⟨g6, n6, c6, rfl, ho6, hn6⟩, hb⟩; have hz6 := size_on (s_below (by assumption)) hb; have hS := below_on (s_below (by assumption)) hb; (first | have hR := Arr2.below (Arr2.new _ gx ux nx gy uy ny) hb | have hR := Arr2.below (Arr2.new _ gx ux nx gy uy ny).drew hb | replace hR := Arr2.below hR hb | skip); (first | have hQ := Arr1.below (Arr1.new _ gx ux nx) hb | replace hQ := Arr1.below hQ hb | skip); clear hb))
            refine hK.out _ _ ?_ (fun hHeld2 => ?_)
            · (try dsimp only)
              (first | assumption | exact HS0.out _ (by assumption) | exact HS0.out _ (Below.drew (by assumption)) | exact HS0.out _ (Below.refl _ _).drew | exact HS0.out _ (below_on (s_below (by assumption)) (below_alloc1 _ _)))
            replace hHeld := hHeld2
            clear hK K hHeld2
            (try dsimp only at hHeld)
            (try simp only [List.setIfInBounds_toArray, List.set_cons_zero, List.set_cons_succ])
            refine wpAnyH_ready (rs := [7]) (by kernel_rfl) (by simp) ?_
            refine ready_at 7 ⟨_, rfl⟩ (fun o ho K hK => ?_) ?_
            · simp only [List.getElem?_toArray, List.getElem?_cons_succ, List.getElem?_cons_zero, Option.some.injEq] at ho
              subst ho
              go_simp
              (first
                | (go_at_call_of 40 b; (try clear hS); refine (rmul_v (h_a.below (s_below (by assumption))) (h_b.below (s_below (by assumption))) (by omega) (by omega)).mono ?_; rintro e w7 ⟨v7, rfl, ⟨A7, m7, d7, rfl, hs7, hn7⟩, hb⟩; have hS := below_on (s_below (by assumption)) hb; have hA7 : Below w6.heap.size w6 w7 := (by first | exact hb | exact below_on (below_alloc1 _ _) hb | exact below_on (below_drew1 _) hb | exact below_on (below_on (below_drew1 _) (below_alloc1 _ _)) hb); replace ho6 := ho6.below hA7; clear hA7; (first | have hR := Arr2.below (Arr2.new _ gx ux nx gy uy ny) hb | have hR := Arr2.below (Arr2.new _ gx ux nx gy uy ny).drew hb | replace hR := Arr2.below hR hb | skip); (first | have hQ := Arr1.below (Arr1.new _ gx ux nx) hb | replace hQ := Arr1.below hQ hb | skip); clear hb)
                | (go_at_call 40; (try clear hS); refine (rmul_v (h_a.below (s_below (by assumption))) (h_a.below (s_below (by assumption))) (by omega) (by omega)).mono ?_; rintro e w7 ⟨v7, rfl, ⟨A7, m7, d7, rfl, hs7, hn7⟩, hb⟩; have hS := below_on (s_below (by assumption)) hb; have hA7 : Below w6.heap.size w6 w7 := (by first | exact hb | exact below_on (below_alloc1 _ _) hb | exact below_on (below_drew1 _) hb | exact below_on (below_on (below_drew1 _) (below_alloc1 _ _)) hb); replace ho6 := ho6.below hA7; clear hA7; (first | have hR := Arr2.below (Arr2.new _ gx ux nx gy uy ny) hb | have hR := Arr2.below (Arr2.new _ gx ux nx gy uy ny).drew hb | replace hR := Arr2.below hR hb | skip); (first | have hQ := Arr1.below (Arr1.new _ gx ux nx) hb | replace hQ := Arr1.below hQ hb | skip); clear hb))
              refine hK.out _ _ ?_ (fun hHeld2 => ?_)
              · (try dsimp only)
                (first | assumption | exact HS0.out _ (by assumption) | exact HS0.out _ (Below.drew (by assumption)) | exact HS0.out _ (Below.refl _ _).drew | exact HS0.out _ (below_on (s_below (by assumption)) (below_alloc1 _ _)))
              replace hHeld := hHeld2
              clear hK K hHeld2
              (try dsimp only at hHeld)
              (try simp only [List.setIfInBounds_toArray, List.set_cons_zero, List.set_cons_succ])
              refine wpAnyH_ready (rs := [11]) (by kernel_rfl) (by simp) ?_
              refine ready_at 11 ⟨_, rfl⟩ (fun o ho K hK => ?_) ?_
              · simp only [List.getElem?_toArray, List.getElem?_cons_succ, List.getElem?_cons_zero, Option.some.injEq] at ho
                subst ho
                go_simp
                (first
                  | (go_at_call_of 38 (2 : Nat); (try clear hS); refine (is_two (by first | exact ho6 | exact ho6.below (below_alloc1 _ _)) (by first | exact hs7 | exact hs7.below (below_alloc1 _ _)) (by omega) (by first | exact Arr2.new _ gx ux nx gy uy ny | exact hR) (hx.below (s_below (by assumption))) (hy.below (s_below (by assumption))) (by omega) (by omega) (by have := ho6.base_le; omega) hlx hly (by omega)).mono ?_; rintro e wn ⟨rfl, hg⟩; have hS := below_gb (s_below (by assumption)) hg (by have := ho6.base_le; omega); clear hg ho6 hs7 hz6; (try clear hR); (try clear hQ))
                  | (go_at_call_of 38 (1 : Nat); (try clear hS); refine (is_one (by first | exact ho6 | exact ho6.below (below_alloc1 _ _)) (by first | exact hs7 | exact hs7.below (below_alloc1 _ _)) (by omega) (by first | exact Arr1.new _ gx ux nx | exact hQ) (hx.below (s_below (by assumption))) (by omega) (by have := ho6.base_le; omega) hlx (by omega)).mono ?_; rintro e wn ⟨rfl, hg⟩; have hS := below_gb (s_below (by assumption)) hg (by have := ho6.base_le; omega); clear hg ho6 hs7 hz6; (try clear hR); (try clear hQ)))
                refine hK.out _ _ ?_ (fun hHeld2 => ?_)
                · (try dsimp only)
                  (first | assumption | exact HS0.out _ (by assumption) | exact HS0.out _ (Below.drew (by assumption)) | exact HS0.out _ (Below.refl _ _).drew | exact HS0.out _ (below_on (s_below (by assumption)) (below_alloc1 _ _)))
                replace hHeld := hHeld2
                clear hK K hHeld2
                (try dsimp only at hHeld)
                (try simp only [List.setIfInBounds_toArray, List.set_cons_zero, List.set_cons_succ])
                exact REST1 _ _ rfl hHeld
              exact AllReadyH.nil
            exact AllReadyH.nil
          exact AllReadyH.nil
        exact AllReadyH.nil
      refine ready_at 10 ⟨_, rfl⟩ (fun o ho K hK => ?_) ?_
      · simp only [List.getElem?_toArray, List.getElem?_cons_succ, List.getElem?_cons_zero, Option.some.injEq] at ho
        subst ho
        go_simp
        refine hK.out _ _ ?_ (fun hHeld2 => ?_)
        · (try dsimp only)
          (first | assumption | exact HS0.out _ (by assumption) | exact HS0.out _ (Below.drew (by assumption)) | exact HS0.out _ (Below.refl _ _).drew | exact HS0.out _ (below_on (s_below (by assumption)) (below_alloc1 _ _)))
        replace hHeld := hHeld2
        clear hK K hHeld2
        (try dsimp only at hHeld)
        (try simp only [List.setIfInBounds_toArray, List.set_cons_zero, List.set_cons_succ])
        refine wpAnyH_ready (rs := [3]) (by kernel_rfl) (by simp) ?_
        refine ready_at 3 ⟨_, rfl⟩ (fun o ho K hK => ?_) ?_
        · simp only [List.getElem?_toArray, List.getElem?_cons_succ, List.getElem?_cons_zero, Option.some.injEq] at ho
          subst ho
          go_simp
          (first
            | (go_at_call_of 35 gx; (try clear hS); refine (list_any _ gx nx _ (by omega)).mono ?_; rintro e wn ⟨rfl, hb⟩; have hS := below_on (s_below (by assumption)) hb; (first | have hR := Arr2.below (Arr2.new _ gx ux nx gy uy ny) hb | have hR := Arr2.below (Arr2.new _ gx ux nx gy uy ny).drew hb | replace hR := Arr2.below hR hb | skip); (first | have hQ := Arr1.below (Arr1.new _ gx ux nx) hb | replace hQ := Arr1.below hQ hb | skip); clear hb)
            | (go_at_call_of 35 gy; (try clear hS); refine (list_any _ gy ny _ (by omega)).mono ?_; rintro e wn ⟨rfl, hb⟩; have hS := below_on (s_below (by assumption)) hb; (first | have hR := Arr2.below (Arr2.new _ gx ux nx gy uy ny) hb | have hR := Arr2.below (Arr2.new _ gx ux nx gy uy ny).drew hb | replace hR := Arr2.below hR hb | skip); (first | have hQ := Arr1.below (Arr1.new _ gx ux nx) hb | replace hQ := Arr1.below hQ hb | skip); clear hb))
          refine hK.out _ _ ?_ (fun hHeld2 => ?_)
          · (try dsimp only)
            (first | assumption | exact HS0.out _ (by assumption) | exact HS0.out _ (Below.drew (by assumption)) | exact HS0.out _ (Below.refl _ _).drew | exact HS0.out _ (below_on (s_below (by assumption)) (below_alloc1 _ _)))
          replace hHeld := hHeld2
          clear hK K hHeld2
          (try dsimp only at hHeld)
          (try simp only [List.setIfInBounds_toArray, List.set_cons_zero, List.set_cons_succ])
          refine wpAnyH_ready (rs := [4]) (by kernel_rfl) (by simp) ?_
          refine ready_at 4 ⟨_, rfl⟩ (fun o ho K hK => ?_) ?_
          · simp only [List.getElem?_toArray, List.getElem?_cons_succ, List.getElem?_cons_zero, Option.some.injEq] at ho
            subst ho
            go_simp
            (first
              | (go_at_call_of 39 gy; (try clear hS); refine (mul_v (hx.below (s_below (by assumption))).val (hy.below (s_below (by assumption))).val (by omega)).mono ?_; rintro e w6 ⟨v6, rfl, ⟨g6, n6, c6, rfl, ho6, hn6⟩, hb⟩; have hz6 := size_on (s_below (by assumption)) hb; have hS := below_on (s_below (by assumption)) hb; (first | have hR := Arr2.below (Arr2.new _ gx ux nx gy uy ny) hb | have hR := Arr2.below (Arr2.new _ gx ux nx gy uy ny).drew hb | replace hR := Arr2.below hR hb | skip); (first | have hQ := Arr1.below (Arr1.new _ gx ux nx) hb | replace hQ := Arr1.below hQ hb | skip); clear hb)
              | (go_at_call 39; (try clear hS); refine (mul_v (hx.below (s_below (by assumption))).val (hx.below (s_below (by assumption))).val (by omega)).mono ?_; rintro e w6 ⟨v6, rfl, ⟨g6, n6, c6, rfl, ho6, hn6⟩, hb⟩; have hz6 := size_on (s_below (by assumption)) hb; have hS := below_on (s_below (by assumption)) hb; (first | have hR := Arr2.below (Arr2.new _ gx ux nx gy uy ny) hb | have hR := Arr2.below (Arr2.new _ gx ux nx gy uy ny).drew hb | replace hR := Arr2.below hR hb | skip); (first | have hQ := Arr1.below (Arr1.new _ gx ux nx) hb | replace hQ := Arr1.below hQ hb | skip); clear hb))
            refine hK.out _ _ ?_ (fun hHeld2 => ?_)
            · (try dsimp only)
              (first | assumption | exact HS0.out _ (by assumption) | exact HS0.out _ (Below.drew (by assumption)) | exact HS0.out _ (Below.refl _ _).drew | exact HS0.out _ (below_on (s_below (by assumption)) (below_alloc1 _ _)))
            replace hHeld := hHeld2
            clear hK K hHeld2
            (try dsimp only at hHeld)
            (try simp only [List.setIfInBounds_toArray, List.set_cons_zero, List.set_cons_succ])
            refine wpAnyH_ready (rs := [7]) (by kernel_rfl) (by simp) ?_
            refine ready_at 7 ⟨_, rfl⟩ (fun o ho K hK => ?_) ?_
            · simp only [List.getElem?_toArray, List.getElem?_cons_succ, List.getElem?_cons_zero, Option.some.injEq] at ho
              subst ho
              go_simp
              (first
                | (go_at_call_of 40 b; (try clear hS); refine (rmul_v (h_a.below (s_below (by assumption))) (h_b.below (s_below (by assumption))) (by omega) (by omega)).mono ?_; rintro e w7 ⟨v7, rfl, ⟨A7, m7, d7, rfl, hs7, hn7⟩, hb⟩; have hS := below_on (s_below (by assumption)) hb; have hA7 : Below w6.heap.size w6 w7 := (by first | exact hb | exact below_on (below_alloc1 _ _) hb | exact below_on (below_drew1 _) hb | exact below_on (below_on (below_drew1 _) (below_alloc1 _ _)) hb); replace ho6 := ho6.below hA7; clear hA7; (first | have hR := Arr2.below (Arr2.new _ gx ux nx gy uy ny) hb | have hR := Arr2.below (Arr2.new _ gx ux nx gy uy ny).drew hb | replace hR := Arr2.below hR hb | skip); (first | have hQ := Arr1.below (Arr1.new _ gx ux nx) hb | replace hQ := Arr1.below hQ hb | skip); clear hb)
                | (go_at_call 40; (try clear hS); refine (rmul_v (h_a.below (s_below (by assumption))) (h_a.below (s_below (by assumption))) (by omega) (by omega)).mono ?_; rintro e w7 ⟨v7, rfl, ⟨A7, m7, d7, rfl, hs7, hn7⟩, hb⟩; have hS := below_on (s_below (by assumption)) hb; have hA7 : Below w6.heap.size w6 w7 := (by first | exact hb | exact below_on (below_alloc1 _ _) hb | exact below_on (below_drew1 _) hb | exact below_on (below_on (below_drew1 _) (below_alloc1 _ _)) hb); replace ho6 := ho6.below hA7; clear hA7; (first | have hR := Arr2.below (Arr2.new _ gx ux nx gy uy ny) hb | have hR := Arr2.below (Arr2.new _ gx ux nx gy uy ny).drew hb | replace hR := Arr2.below hR hb | skip); (first | have hQ := Arr1.below (Arr1.new _ gx ux nx) hb | replace hQ := Arr1.below hQ hb | skip); clear hb))
              refine hK.out _ _ ?_ (fun hHeld2 => ?_)
              · (try dsimp only)
                (first | assumption | exact HS0.out _ (by assumption) | exact HS0.out _ (Below.drew (by assumption)) | exact HS0.out _ (Below.refl _ _).drew | exact HS0.out _ (below_on (s_below (by assumption)) (below_alloc1 _ _)))
              replace hHeld := hHeld2
              clear hK K hHeld2
              (try dsimp only at hHeld)
              (try simp only [List.setIfInBounds_toArray, List.set_cons_zero, List.set_cons_succ])
              refine wpAnyH_ready (rs := [11]) (by kernel_rfl) (by simp) ?_
              refine ready_at 11 ⟨_, rfl⟩ (fun o ho K hK => ?_) ?_
              · simp only [List.getElem?_toArray, List.getElem?_cons_succ, List.getElem?_cons_zero, Option.some.injEq] at ho
                subst ho
                go_simp
                (first
                  | (go_at_call_of 38 (2 : Nat); (try clear hS); refine (is_two (by first | exact ho6 | exact ho6.below (below_alloc1 _ _)) (by first | exact hs7 | exact hs7.below (below_alloc1 _ _)) (by omega) (by first | exact Arr2.new _ gx ux nx gy uy ny | exact hR) (hx.below (s_below (by assumption))) (hy.below (s_below (by assumption))) (by omega) (by omega) (by have := ho6.base_le; omega) hlx hly (by omega)).mono ?_; rintro e wn ⟨rfl, hg⟩; have hS := below_gb (s_below (by assumption)) hg (by have := ho6.base_le; omega); clear hg ho6 hs7 hz6; (try clear hR); (try clear hQ))
                  | (go_at_call_of 38 (1 : Nat); (try clear hS); refine (is_one (by first | exact ho6 | exact ho6.below (below_alloc1 _ _)) (by first | exact hs7 | exact hs7.below (below_alloc1 _ _)) (by omega) (by first | exact Arr1.new _ gx ux nx | exact hQ) (hx.below (s_below (by assumption))) (by omega) (by have := ho6.base_le; omega) hlx (by omega)).mono ?_; rintro e wn ⟨rfl, hg⟩; have hS := below_gb (s_below (by assumption)) hg (by have := ho6.base_le; omega); clear hg ho6 hs7 hz6; (try clear hR); (try clear hQ)))
                refine hK.out _ _ ?_ (fun hHeld2 => ?_)
                · (try dsimp only)
                  (first | assumption | exact HS0.out _ (by assumption) | exact HS0.out _ (Below.drew (by assumption)) | exact HS0.out _ (Below.refl _ _).drew | exact HS0.out _ (below_on (s_below (by assumption)) (below_alloc1 _ _)))
                replace hHeld := hHeld2
                clear hK K hHeld2
                (try dsimp only at hHeld)
                (try simp only [List.setIfInBounds_toArray, List.set_cons_zero, List.set_cons_succ])
                exact REST1 _ _ rfl hHeld
              exact AllReadyH.nil
            exact AllReadyH.nil
          exact AllReadyH.nil
        exact AllReadyH.nil
      exact AllReadyH.nil
    refine ready_at 10 ⟨_, rfl⟩ (fun o ho K hK => ?_) ?_
    · simp only [List.getElem?_toArray, List.getElem?_cons_succ, List.getElem?_cons_zero, Option.some.injEq] at ho
      subst ho
      go_simp
      refine hK.out _ _ ?_ (fun hHeld2 => ?_)
      · (try dsimp only)
        (first | assumption | exact HS0.out _ (by assumption) | exact HS0.out _ (Below.drew (by assumption)) | exact HS0.out _ (Below.refl _ _).drew | exact HS0.out _ (below_on (s_below (by assumption)) (below_alloc1 _ _)))
      replace hHeld := hHeld2
      clear hK K hHeld2
      (try dsimp only at hHeld)
      (try simp only [List.setIfInBounds_toArray, List.set_cons_zero, List.set_cons_succ])
      refine wpAnyH_ready (rs := [1]) (by kernel_rfl) (by simp) ?_
      refine ready_at 1 ⟨_, rfl⟩ (fun o ho K hK => ?_) ?_
      · simp only [List.getElem?_toArray, List.getElem?_cons_succ, List.getElem?_cons_zero, Option.some.injEq] at ho
        subst ho
        go_simp
        (first
          | (go_at_call_of 35 gx; (try clear hS); refine (list_any _ gx nx _ (by omega)).mono ?_; rintro e wn ⟨rfl, hb⟩; have hS := below_on (s_below (by assumption)) hb; (first | have hR := Arr2.below (Arr2.new _ gx ux nx gy uy ny) hb | have hR := Arr2.below (Arr2.new _ gx ux nx gy uy ny).drew hb | replace hR := Arr2.below hR hb | skip); (first | have hQ := Arr1.below (Arr1.new _ gx ux nx) hb | replace hQ := Arr1.below hQ hb | skip); clear hb)
          | (go_at_call_of 35 gy; (try clear hS); refine (list_any _ gy ny _ (by omega)).mono ?_; rintro e wn ⟨rfl, hb⟩; have hS := below_on (s_below (by assumption)) hb; (first | have hR := Arr2.below (Arr2.new _ gx ux nx gy uy ny) hb | have hR := Arr2.below (Arr2.new _ gx ux nx gy uy ny).drew hb | replace hR := Arr2.below hR hb | skip); (first | have hQ := Arr1.below (Arr1.new _ gx ux nx) hb | replace hQ := Arr1.below hQ hb | skip); clear hb))
        refine hK.out _ _ ?_ (fun hHeld2 => ?_)
        · (try dsimp only)
          (first | assumption | exact HS0.out _ (by assumption) | exact HS0.out _ (Below.drew (by assumption)) | exact HS0.out _ (Below.refl _ _).drew | exact HS0.out _ (below_on (s_below (by assumption)) (below_alloc1 _ _)))
        replace hHeld := hHeld2
        clear hK K hHeld2
        (try dsimp only at hHeld)
        (try simp only [List.setIfInBounds_toArray, List.set_cons_zero, List.set_cons_succ])
        refine wpAnyH_ready (rs := [3]) (by kernel_rfl) (by simp) ?_
        refine ready_at 3 ⟨_, rfl⟩ (fun o ho K hK => ?_) ?_
        · simp only [List.getElem?_toArray, List.getElem?_cons_succ, List.getElem?_cons_zero, Option.some.injEq] at ho
          subst ho
          go_simp
          (first
            | (go_at_call_of 35 gx; (try clear hS); refine (list_any _ gx nx _ (by omega)).mono ?_; rintro e wn ⟨rfl, hb⟩; have hS := below_on (s_below (by assumption)) hb; (first | have hR := Arr2.below (Arr2.new _ gx ux nx gy uy ny) hb | have hR := Arr2.below (Arr2.new _ gx ux nx gy uy ny).drew hb | replace hR := Arr2.below hR hb | skip); (first | have hQ := Arr1.below (Arr1.new _ gx ux nx) hb | replace hQ := Arr1.below hQ hb | skip); clear hb)
            | (go_at_call_of 35 gy; (try clear hS); refine (list_any _ gy ny _ (by omega)).mono ?_; rintro e wn ⟨rfl, hb⟩; have hS := below_on (s_below (by assumption)) hb; (first | have hR := Arr2.below (Arr2.new _ gx ux nx gy uy ny) hb | have hR := Arr2.below (Arr2.new _ gx ux nx gy uy ny).drew hb | replace hR := Arr2.below hR hb | skip); (first | have hQ := Arr1.below (Arr1.new _ gx ux nx) hb | replace hQ := Arr1.below hQ hb | skip); clear hb))
          refine hK.out _ _ ?_ (fun hHeld2 => ?_)
          · (try dsimp only)
            (first | assumption | exact HS0.out _ (by assumption) | exact HS0.out _ (Below.drew (by assumption)) | exact HS0.out _ (Below.refl _ _).drew | exact HS0.out _ (below_on (s_below (by assumption)) (below_alloc1 _ _)))
          replace hHeld := hHeld2
          clear hK K hHeld2
          (try dsimp only at hHeld)
          (try simp only [List.setIfInBounds_toArray, List.set_cons_zero, List.set_cons_succ])
          refine wpAnyH_ready (rs := [4]) (by kernel_rfl) (by simp) ?_
          refine ready_at 4 ⟨_, rfl⟩ (fun o ho K hK => ?_) ?_
          · simp only [List.getElem?_toArray, List.getElem?_cons_succ, List.getElem?_cons_zero, Option.some.injEq] at ho
            subst ho
            go_simp
            (first
              | (go_at_call_of 39 gy; (try clear hS); refine (mul_v (hx.below (s_below (by assumption))).val (hy.below (s_below (by assumption))).val (by omega)).mono ?_; rintro e w6 ⟨v6, rfl, ⟨g6, n6, c6, rfl, ho6, hn6⟩, hb⟩; have hz6 := size_on (s_below (by assumption)) hb; have hS := below_on (s_below (by assumption)) hb; (first | have hR := Arr2.below (Arr2.new _ gx ux nx gy uy ny) hb | have hR := Arr2.below (Arr2.new _ gx ux nx gy uy ny).drew hb | replace hR := Arr2.below hR hb | skip); (first | have hQ := Arr1.below (Arr1.new _ gx ux nx) hb | replace hQ := Arr1.below hQ hb | skip); clear hb)
              | (go_at_call 39; (try clear hS); refine (mul_v (hx.below (s_below (by assumption))).val (hx.below (s_below (by assumption))).val (by omega)).mono ?_; rintro e w6 ⟨v6, rfl, ⟨g6, n6, c6, rfl, ho6, hn6⟩, hb⟩; have hz6 := size_on (s_below (by assumption)) hb; have hS := below_on (s_below (by assumption)) hb; (first | have hR := Arr2.below (Arr2.new _ gx ux nx gy uy ny) hb | have hR := Arr2.below (Arr2.new _ gx ux nx gy uy ny).drew hb | replace hR := Arr2.below hR hb | skip); (first | have hQ := Arr1.below (Arr1.new _ gx ux nx) hb | replace hQ := Arr1.below hQ hb | skip); clear hb))
            refine hK.out _ _ ?_ (fun hHeld2 => ?_)
            · (try dsimp only)
              (first | assumption | exact HS0.out _ (by assumption) | exact HS0.out _ (Below.drew (by assumption)) | exact HS0.out _ (Below.refl _ _).drew | exact HS0.out _ (below_on (s_below (by assumption)) (below_alloc1 _ _)))
            replace hHeld := hHeld2
            clear hK K hHeld2
            (try dsimp only at hHeld)
            (try simp only [List.setIfInBounds_toArray, List.set_cons_zero, List.set_cons_succ])
            refine wpAnyH_ready (rs := [7]) (by kernel_rfl) (by simp) ?_
            refine ready_at 7 ⟨_, rfl⟩ (fun o ho K hK => ?_) ?_
            · simp only [List.getElem?_toArray, List.getElem?_cons_succ, List.getElem?_cons_zero, Option.some.injEq] at ho
              subst ho
              go_simp
              (first
                | (go_at_call_of 40 b; (try clear hS); refine (rmul_v (h_a.below (s_below (by assumption))) (h_b.below (s_below (by assumption))) (by omega) (by omega)).mono ?_; rintro e w7 ⟨v7, rfl, ⟨A7, m7, d7, rfl, hs7, hn7⟩, hb⟩; have hS := below_on (s_below (by assumption)) hb; have hA7 : Below w6.heap.size w6 w7 := (by first | exact hb | exact below_on (below_alloc1 _ _) hb | exact below_on (below_drew1 _) hb | exact below_on (below_on (below_drew1 _) (below_alloc1 _ _)) hb); replace ho6 := ho6.below hA7; clear hA7; (first | have hR := Arr2.below (Arr2.new _ gx ux nx gy uy ny) hb | have hR := Arr2.below (Arr2.new _ gx ux nx gy uy ny).drew hb | replace hR := Arr2.below hR hb | skip); (first | have hQ := Arr1.below (Arr1.new _ gx ux nx) hb | replace hQ := Arr1.below hQ hb | skip); clear hb)
                | (go_at_call 40; (try clear hS); refine (rmul_v (h_a.below (s_below (by assumption))) (h_a.below (s_below (by assumption))) (by omega) (by omega)).mono ?_; rintro e w7 ⟨v7, rfl, ⟨A7, m7, d7, rfl, hs7, hn7⟩, hb⟩; have hS := below_on (s_below (by assumption)) hb; have hA7 : Below w6.heap.size w6 w7 := (by first | exact hb | exact below_on (below_alloc1 _ _) hb | exact below_on (below_drew1 _) hb | exact below_on (below_on (below_drew1 _) (below_alloc1 _ _)) hb); replace ho6 := ho6.below hA7; clear hA7; (first | have hR := Arr2.below (Arr2.new _ gx ux nx gy uy ny) hb | have hR := Arr2.below (Arr2.new _ gx ux nx gy uy ny).drew hb | replace hR := Arr2.below hR hb | skip); (first | have hQ := Arr1.below (Arr1.new _ gx ux nx) hb | replace hQ := Arr1.below hQ hb | skip); clear hb))
              refine hK.out _ _ ?_ (fun hHeld2 => ?_)
              · (try dsimp only)
                (first | assumption | exact HS0.out _ (by assumption) | exact HS0.out _ (Below.drew (by assumption)) | exact HS0.out _ (Below.refl _ _).drew | exact HS0.out _ (below_on (s_below (by assumption)) (below_alloc1 _ _)))
              replace hHeld := hHeld2
              clear hK K hHeld2
              (try dsimp only at hHeld)
              (try simp only [List.setIfInBounds_toArray, List.set_cons_zero, List.set_cons_succ])
              refine wpAnyH_ready (rs := [11]) (by kernel_rfl) (by simp) ?_
              refine ready_at 11 ⟨_, rfl⟩ (fun o ho K hK => ?_) ?_
              · simp only [List.getElem?_toArray, List.getElem?_cons_succ, List.getElem?_cons_zero, Option.some.injEq] at ho
                subst ho
                go_simp
                (first
                  | (go_at_call_of 38 (2 : Nat); (try clear hS); refine (is_two (by first | exact ho6 | exact ho6.below (below_alloc1 _ _)) (by first | exact hs7 | exact hs7.below (below_alloc1 _ _)) (by omega) (by first | exact Arr2.new _ gx ux nx gy uy ny | exact hR) (hx.below (s_below (by assumption))) (hy.below (s_below (by assumption))) (by omega) (by omega) (by have := ho6.base_le; omega) hlx hly (by omega)).mono ?_; rintro e wn ⟨rfl, hg⟩; have hS := below_gb (s_below (by assumption)) hg (by have := ho6.base_le; omega); clear hg ho6 hs7 hz6; (try clear hR); (try clear hQ))
                  | (go_at_call_of 38 (1 : Nat); (try clear hS); refine (is_one (by first | exact ho6 | exact ho6.below (below_alloc1 _ _)) (by first | exact hs7 | exact hs7.below (below_alloc1 _ _)) (by omega) (by first | exact Arr1.new _ gx ux nx | exact hQ) (hx.below (s_below (by assumption))) (by omega) (by have := ho6.base_le; omega) hlx (by omega)).mono ?_; rintro e wn ⟨rfl, hg⟩; have hS := below_gb (s_below (by assumption)) hg (by have := ho6.base_le; omega); clear hg ho6 hs7 hz6; (try clear hR); (try clear hQ)))
                refine hK.out _ _ ?_ (fun hHeld2 => ?_)
                · (try dsimp only)
                  (first | assumption | exact HS0.out _ (by assumption) | exact HS0.out _ (Below.drew (by assumption)) | exact HS0.out _ (Below.refl _ _).drew | exact HS0.out _ (below_on (s_below (by assumption)) (below_alloc1 _ _)))
                replace hHeld := hHeld2
                clear hK K hHeld2
                (try dsimp only at hHeld)
                (try simp only [List.setIfInBounds_toArray, List.set_cons_zero, List.set_cons_succ])
                exact REST1 _ _ rfl hHeld
              exact AllReadyH.nil
            exact AllReadyH.nil
          exact AllReadyH.nil
        exact AllReadyH.nil
      exact AllReadyH.nil
    exact AllReadyH.nil
end Go.Proofs.YtchbamlfdknkgaaDoor

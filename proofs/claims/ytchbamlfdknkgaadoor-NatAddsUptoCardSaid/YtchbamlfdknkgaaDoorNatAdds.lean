/-
  The walk of riddlelaw01.NatAdds: it answers true.
-/
import Derived.Test.YtchbamlfdknkgaaDoorKnown
import Derived.Test.YtchbamlfdknkgaaDoorRVal
import Derived.Test.YtchbamlfdknkgaaDoorVars
import Derived.Test.YtchbamlfdknkgaaDoorHand
import Derived.Deep.Cut
namespace Go.Proofs.YtchbamlfdknkgaaDoor
open Go.RowKit

set_option maxRecDepth 100000 in
set_option maxHeartbeats 40000000 in
theorem walkNatAdds (w : World) (a b : Value) (Ka na Kb nb : Nat) (h_a : Val w a Ka na) (h_b : Val w b Kb nb) (hKa : Ka ≤ 1048576) (hKb : Kb ≤ 1048576) :
    Calls Tryd.prog 15 #[a, b] w fun e w' => e = .returned (.bool true) ∧ Below w.heap.size w w' := by
  have hw : Below w.heap.size w w := Below.refl _ _
  go_enter Tryd.func15, Tryd.ntmps15
  go_wp2_with fail
  refine (lend_v h_a (by omega)).mono ?_
  rintro e w1 ⟨gx, ux, nx, lx, rfl, hx, hb1⟩
  replace h_a := h_a.below hb1
  replace h_b := h_b.below hb1
  replace hw := hw.trans (hb1.mono hw.size)
  go_wp2_with fail
  obtain ⟨W1, hW1, hvx, hc1⟩ := var_new w1 53 gx ux nx
  rw [← hW1]
  clear hW1
  obtain ⟨vx, hvxe⟩ : ∃ vx, w1.heap.size = vx := ⟨_, rfl⟩
  rw [hvxe] at hvx ⊢
  replace h_a := h_a.below hc1
  replace h_b := h_b.below hc1
  replace hx := hx.below hc1
  replace hw := below_on hw hc1
  clear hvxe hc1 hb1
  refine (lend_v h_b (by omega)).mono ?_
  rintro e w2 ⟨gy, uy, ny, ly, rfl, hy, hb2⟩
  replace h_a := h_a.below hb2
  replace h_b := h_b.below hb2
  replace hx := hx.below hb2
  replace hvx := hvx.below hb2
  replace hw := below_on hw hb2
  go_wp2_with fail
  obtain ⟨W2, hW2, hvy, hc2⟩ := var_new w2 53 gy uy ny
  rw [← hW2]
  clear hW2
  obtain ⟨vy, hvye⟩ : ∃ vy, w2.heap.size = vy := ⟨_, rfl⟩
  rw [hvye] at hvy ⊢
  replace h_a := h_a.below hc2
  replace h_b := h_b.below hc2
  replace hx := hx.below hc2
  replace hy := hy.below hc2
  replace hvx := hvx.below hc2
  replace hw := below_on hw hc2
  clear hvye hc2 hb2
  have hnx := hx.le
  have hny := hy.le
  have hS0 : ∀ w', Below W2.heap.size W2 w' → ((w'.cell? ⟨vx, 0, none⟩ = some (.slice (some ⟨gx, 0, none⟩) (nx + 4) (nx + 4)) ∧ w'.cell? ⟨vx, 1, none⟩ = some (.int .i64 nx) ∧ w'.cell? ⟨vx, 2, none⟩ = some (.slice (some ⟨ux, 0, none⟩) (nx + 4) (nx + 4))) ∧ (w'.cell? ⟨vy, 0, none⟩ = some (.slice (some ⟨gy, 0, none⟩) (ny + 4) (ny + 4)) ∧ w'.cell? ⟨vy, 1, none⟩ = some (.int .i64 ny) ∧ w'.cell? ⟨vy, 2, none⟩ = some (.slice (some ⟨uy, 0, none⟩) (ny + 4) (ny + 4)))) ∧ Below W2.heap.size W2 w' := fun w' hb => ⟨⟨hvx.below hb, hvy.below hb⟩, hb⟩
  have HS0 := Lib.hid hS0
  clear hS0
  have hlx := hx.lt
  have hly := hy.lt
  refine (rcmp_v h_a h_b (by omega) (by omega)).mono ?_
  rintro e w3 ⟨rfl, rfl⟩
  obtain ⟨c, hc⟩ : ∃ c : Int, N.cmpN na nb = c := ⟨_, rfl⟩
  have hcn := cmp_neg na nb
  rw [hc] at hcn ⊢
  have HC := Lib.hid hc
  have HCN := Lib.hid hcn
  clear hc hcn
  go_wp2_with fail
  go_region_held3 (fun w' => ((w'.cell? ⟨vx, 0, none⟩ = some (.slice (some ⟨gx, 0, none⟩) (nx + 4) (nx + 4)) ∧ w'.cell? ⟨vx, 1, none⟩ = some (.int .i64 nx) ∧ w'.cell? ⟨vx, 2, none⟩ = some (.slice (some ⟨ux, 0, none⟩) (nx + 4) (nx + 4))) ∧ (w'.cell? ⟨vy, 0, none⟩ = some (.slice (some ⟨gy, 0, none⟩) (ny + 4) (ny + 4)) ∧ w'.cell? ⟨vy, 1, none⟩ = some (.int .i64 ny) ∧ w'.cell? ⟨vy, 2, none⟩ = some (.slice (some ⟨uy, 0, none⟩) (ny + 4) (ny + 4)))) ∧ Below W2.heap.size W2 w')
    (first | assumption | exact HS0.out _ (by assumption) | exact HS0.out _ (Below.drew (by assumption)) | exact HS0.out _ (Below.refl _ _).drew | exact HS0.out _ (below_on (s_below (by assumption)) (below_alloc1 _ _)))
    (first
      | (go_at_call_of 35 gx; (try clear hS); refine (list_any _ gx nx _ (by omega)).mono ?_; rintro e wn ⟨rfl, hb⟩; have hS := below_on (s_below (by assumption)) hb; (first | have hR := Arr2.below (Arr2.new _ gx ux nx gy uy ny) hb | have hR := Arr2.below (Arr2.new _ gx ux nx gy uy ny).drew hb | replace hR := Arr2.below hR hb | skip); (first | have hQ := Arr1.below (Arr1.new _ gx ux nx) hb | replace hQ := Arr1.below hQ hb | skip); clear hb)
      | (go_at_call_of 35 gy; (try clear hS); refine (list_any _ gy ny _ (by omega)).mono ?_; rintro e wn ⟨rfl, hb⟩; have hS := below_on (s_below (by assumption)) hb; (first | have hR := Arr2.below (Arr2.new _ gx ux nx gy uy ny) hb | have hR := Arr2.below (Arr2.new _ gx ux nx gy uy ny).drew hb | replace hR := Arr2.below hR hb | skip); (first | have hQ := Arr1.below (Arr1.new _ gx ux nx) hb | replace hQ := Arr1.below hQ hb | skip); clear hb)
      | (go_at_call 58; refine (sub_u (hx.below (s_below (by assumption))).val (hy.below (s_below (by assumption))).val (by omega) (by omega)).mono ?_; rintro e w6 ⟨v6, z6, rfl, hor6, hb⟩; have hz6 := size_on (s_below (by assumption)) hb; have hS := below_on (s_below (by assumption)) hb; clear hb))
  go_upto_if 26 with (fail)
  go_cut [] from 8 (fun wc => Below W2.heap.size W2 wc)
  case first =>
    rcases hor6 with ⟨hlt, rfl, rfl⟩ | ⟨hge, rfl, ⟨g6, n6, c6, rfl, ho6, hn6⟩⟩
    · have tc : decide (c < 0) = true := by rw [HCN.out]; exact decide_eq_true hlt
      rw [tc]
      go_wp2_with fail
      go_meet
      case rel => exact hS
    · have tc : decide (c < 0) = false := by rw [HCN.out]; exact decide_eq_false (by omega)
      rw [tc]
      go_wp2_with fail
      go_region_held3 (fun w' => ((w'.cell? ⟨vx, 0, none⟩ = some (.slice (some ⟨gx, 0, none⟩) (nx + 4) (nx + 4)) ∧ w'.cell? ⟨vx, 1, none⟩ = some (.int .i64 nx) ∧ w'.cell? ⟨vx, 2, none⟩ = some (.slice (some ⟨ux, 0, none⟩) (nx + 4) (nx + 4))) ∧ (w'.cell? ⟨vy, 0, none⟩ = some (.slice (some ⟨gy, 0, none⟩) (ny + 4) (ny + 4)) ∧ w'.cell? ⟨vy, 1, none⟩ = some (.int .i64 ny) ∧ w'.cell? ⟨vy, 2, none⟩ = some (.slice (some ⟨uy, 0, none⟩) (ny + 4) (ny + 4)))) ∧ Below W2.heap.size W2 w')
        (first | assumption | exact HS0.out _ (by assumption) | exact HS0.out _ (Below.drew (by assumption)) | exact HS0.out _ (Below.refl _ _).drew | exact HS0.out _ (below_on (s_below (by assumption)) (below_alloc1 _ _)))
        (first
          | (go_at_call 59; (try clear hS); refine (rsub_v (h_a.below (s_below (by assumption))) (h_b.below (s_below (by assumption))) (by omega) (by omega) hge).mono ?_; rintro e w7 ⟨v7, rfl, ⟨A7, m7, d7, rfl, hs7, hn7⟩, hb⟩; have hS := below_on (s_below (by assumption)) hb; have hA7 : Below w6.heap.size w6 w7 := (by first | exact hb | exact below_on (below_alloc1 _ _) hb | exact below_on (below_drew1 _) hb | exact below_on (below_on (below_drew1 _) (below_alloc1 _ _)) hb); replace ho6 := ho6.below hA7; clear hA7; (first | have hR := Arr2.below (Arr2.new _ gx ux nx gy uy ny) hb | have hR := Arr2.below (Arr2.new _ gx ux nx gy uy ny).drew hb | replace hR := Arr2.below hR hb | skip); (first | have hQ := Arr1.below (Arr1.new _ gx ux nx) hb | replace hQ := Arr1.below hQ hb | skip); clear hb)
          | (go_at_call_of 38 (2 : Nat); (try clear hS); refine (is_two (by first | exact ho6 | exact ho6.below (below_alloc1 _ _)) (by first | exact hs7 | exact hs7.below (below_alloc1 _ _)) (by omega) (by first | exact Arr2.new _ gx ux nx gy uy ny | exact hR) (hx.below (s_below (by assumption))) (hy.below (s_below (by assumption))) (by omega) (by omega) (by have := ho6.base_le; omega) hlx hly (by omega)).mono ?_; rintro e wn ⟨rfl, hg⟩; have hS := below_gb (s_below (by assumption)) hg (by have := ho6.base_le; omega); clear hg ho6 hs7 hz6; (try clear hR); (try clear hQ)))
      all_goals
        go_wp2_with fail
        go_meet
        case rel => exact hS
  case rest =>
    clear hor6 hz6 hS
    go_wp2_with fail
    refine wp_region_noPanic ?_
    refine wp_region_held_drew (S := (fun w' => ((w'.cell? ⟨vx, 0, none⟩ = some (.slice (some ⟨gx, 0, none⟩) (nx + 4) (nx + 4)) ∧ w'.cell? ⟨vx, 1, none⟩ = some (.int .i64 nx) ∧ w'.cell? ⟨vx, 2, none⟩ = some (.slice (some ⟨ux, 0, none⟩) (nx + 4) (nx + 4))) ∧ (w'.cell? ⟨vy, 0, none⟩ = some (.slice (some ⟨gy, 0, none⟩) (ny + 4) (ny + 4)) ∧ w'.cell? ⟨vy, 1, none⟩ = some (.int .i64 ny) ∧ w'.cell? ⟨vy, 2, none⟩ = some (.slice (some ⟨uy, 0, none⟩) (ny + 4) (ny + 4)))) ∧ Below W2.heap.size W2 w')) (by kernel_rfl) ?_ (fun hHeld => ?_)
    · first | exact HS0.out _ (Below.drew hcut) | exact HS0.out _ (Below.refl _ _).drew
    (try dsimp only at hHeld)
    refine with_rest (m := 4) #[true, true, true, true, true, true, true, true, true, true, true, true, true, true, true, true, true, true, true, true, true, true, true, true, true, true, true, true, true, true, true, true, true, true, false, false, false, false] (fun A0 => A0 = { tmps := #[a, b, undef, undef, A0.tmps.getD 4 undef, .pointer (some ⟨vx, 0, none⟩), .pointer (some ⟨vy, 0, none⟩), .int .i64 c, A0.tmps.getD 8 undef, A0.tmps.getD 9 undef, A0.tmps.getD 10 undef, A0.tmps.getD 11 undef, A0.tmps.getD 12 undef, A0.tmps.getD 13 undef, A0.tmps.getD 14 undef, A0.tmps.getD 15 undef, A0.tmps.getD 16 undef, A0.tmps.getD 17 undef, A0.tmps.getD 18 undef, A0.tmps.getD 19 undef, A0.tmps.getD 20 undef, A0.tmps.getD 21 undef, A0.tmps.getD 22 undef, A0.tmps.getD 23 undef, A0.tmps.getD 24 undef, A0.tmps.getD 25 undef, A0.tmps.getD 26 undef, A0.tmps.getD 27 undef, A0.tmps.getD 28 undef, A0.tmps.getD 29 undef, A0.tmps.getD 30 undef, A0.tmps.getD 31 undef, A0.tmps.getD 32 undef, A0.tmps.getD 33 undef, A0.tmps.getD 34 undef, A0.tmps.getD 35 undef, A0.tmps.getD 36 undef, A0.tmps.getD 37 undef, A0.tmps.getD 38 undef, A0.tmps.getD 39 undef, A0.tmps.getD 40 undef, A0.tmps.getD 41 undef, A0.tmps.getD 42 undef, A0.tmps.getD 43 undef, A0.tmps.getD 44 undef, A0.tmps.getD 45 undef, A0.tmps.getD 46 undef, A0.tmps.getD 47 undef, A0.tmps.getD 48 undef, A0.tmps.getD 49 undef, A0.tmps.getD 50 undef, A0.tmps.getD 51 undef, A0.tmps.getD 52 undef, A0.tmps.getD 53 undef, A0.tmps.getD 54 undef, A0.tmps.getD 55 undef, A0.tmps.getD 56 undef, A0.tmps.getD 57 undef, A0.tmps.getD 58 undef, A0.tmps.getD 59 undef, A0.tmps.getD 60 undef, A0.tmps.getD 61 undef, A0.tmps.getD 62 undef, A0.tmps.getD 63 undef, A0.tmps.getD 64 undef, A0.tmps.getD 65 undef, A0.tmps.getD 66 undef, A0.tmps.getD 67 undef, A0.tmps.getD 68 undef, A0.tmps.getD 69 undef, A0.tmps.getD 70 undef, A0.tmps.getD 71 undef, A0.tmps.getD 72 undef, A0.tmps.getD 73 undef, A0.tmps.getD 74 undef, A0.tmps.getD 75 undef, A0.tmps.getD 76 undef, A0.tmps.getD 77 undef, A0.tmps.getD 78 undef, A0.tmps.getD 79 undef, .bool true, A0.tmps.getD 81 undef, A0.tmps.getD 82 undef, A0.tmps.getD 83 undef], defers := [] }) ?rest2 (fun REST2 => ?_)
    case rest2 =>
      intro A wR hA hHeld
      obtain ⟨U, hU⟩ : ∃ U : Nat → Value, A = { tmps := #[a, b, undef, undef, U 4, .pointer (some ⟨vx, 0, none⟩), .pointer (some ⟨vy, 0, none⟩), .int .i64 c, U 8, U 9, U 10, U 11, U 12, U 13, U 14, U 15, U 16, U 17, U 18, U 19, U 20, U 21, U 22, U 23, U 24, U 25, U 26, U 27, U 28, U 29, U 30, U 31, U 32, U 33, U 34, U 35, U 36, U 37, U 38, U 39, U 40, U 41, U 42, U 43, U 44, U 45, U 46, U 47, U 48, U 49, U 50, U 51, U 52, U 53, U 54, U 55, U 56, U 57, U 58, U 59, U 60, U 61, U 62, U 63, U 64, U 65, U 66, U 67, U 68, U 69, U 70, U 71, U 72, U 73, U 74, U 75, U 76, U 77, U 78, U 79, .bool true, U 81, U 82, U 83], defers := [] } := ⟨fun k => A.tmps.getD k undef, hA⟩
      clear hA
      subst hU
      (try dsimp only at hHeld)
      refine take_at 34 (by kernel_rfl) (by kernel_rfl) (by kernel_rfl) (fun _ _ _ _ _ h => h) ⟨_, rfl⟩ (by assumption) (fun o ho => ?_)
      simp only [List.getElem?_toArray, List.getElem?_cons_succ, List.getElem?_cons_zero, Option.some.injEq] at ho
      subst ho
      refine ⟨?_, ⟨by rfl, ?_⟩, ?_⟩
      rotate_left
      · intro w hSw
        (try dsimp only at hSw)
        (go_simp; try with_reducible rfl)
      (try simp only [Act.put, List.setIfInBounds_toArray, List.set_cons_zero, List.set_cons_succ])
      refine wpAnyH_ready (rs := [35]) (by kernel_rfl) (by simp) ?_
      refine ready_at 35 ⟨_, rfl⟩ (fun o ho K hK => ?_) ?_
      · simp only [List.getElem?_toArray, List.getElem?_cons_succ, List.getElem?_cons_zero, Option.some.injEq] at ho
        subst ho
        go_simp
        (go_at_call 41; (try clear hS); refine (known_any _).mono ?_; rintro e wn ⟨rfl, hb⟩; have hS := below_on (s_below (by assumption)) hb; clear hb)
        refine hK.out _ _ ?_ (fun hHeld2 => ?_)
        · (try dsimp only)
          (first | assumption | exact HS0.out _ (by assumption) | exact HS0.out _ (Below.drew (by assumption)) | exact HS0.out _ (Below.refl _ _).drew | exact HS0.out _ (below_on (s_below (by assumption)) (below_alloc1 _ _)))
        replace hHeld := hHeld2
        clear hK K hHeld2
        (try dsimp only at hHeld)
        (try simp only [List.setIfInBounds_toArray, List.set_cons_zero, List.set_cons_succ])
        refine take_at 36 (by kernel_rfl) (by kernel_rfl) (by kernel_rfl) (fun _ _ _ _ _ h => h) ⟨_, rfl⟩ (by assumption) (fun o ho => ?_)
        simp only [List.getElem?_toArray, List.getElem?_cons_succ, List.getElem?_cons_zero, Option.some.injEq] at ho
        subst ho
        refine ⟨?_, ⟨by rfl, ?_⟩, ?_⟩
        rotate_left
        · intro w hSw
          (try dsimp only at hSw)
          (go_simp; try with_reducible rfl)
        (try simp only [Act.put, List.setIfInBounds_toArray, List.set_cons_zero, List.set_cons_succ])
        refine take_at 37 (by kernel_rfl) (by kernel_rfl) (by kernel_rfl) (fun _ _ _ _ _ h => h) ⟨_, rfl⟩ (by assumption) (fun o ho => ?_)
        simp only [List.getElem?_toArray, List.getElem?_cons_succ, List.getElem?_cons_zero, Option.some.injEq] at ho
        subst ho
        refine ⟨?_, ⟨by rfl, ?_⟩, ?_⟩
        rotate_left
        · intro w hSw
          (try dsimp only at hSw)
          (go_simp; try with_reducible rfl)
        (try simp only [Act.put, List.setIfInBounds_toArray, List.set_cons_zero, List.set_cons_succ])
        refine wpAnyH_done (by kernel_rfl) ?_ _
        refine NoPanic.normal ?_
        go_wp2_with fail
        go_ret
        exact ⟨rfl, below_on hw hS⟩
      exact AllReadyH.nil
    refine with_rest (m := 17) #[true, true, true, true, true, true, true, true, true, true, true, true, true, true, true, true, true, true, true, true, true, false, false, false, false, false, false, false, false, false, false, false, false, false, false, false, false, false] (fun A0 => A0 = { tmps := #[a, b, undef, undef, A0.tmps.getD 4 undef, .pointer (some ⟨vx, 0, none⟩), .pointer (some ⟨vy, 0, none⟩), .int .i64 c, A0.tmps.getD 8 undef, A0.tmps.getD 9 undef, A0.tmps.getD 10 undef, A0.tmps.getD 11 undef, A0.tmps.getD 12 undef, A0.tmps.getD 13 undef, A0.tmps.getD 14 undef, A0.tmps.getD 15 undef, A0.tmps.getD 16 undef, A0.tmps.getD 17 undef, A0.tmps.getD 18 undef, A0.tmps.getD 19 undef, A0.tmps.getD 20 undef, A0.tmps.getD 21 undef, A0.tmps.getD 22 undef, A0.tmps.getD 23 undef, A0.tmps.getD 24 undef, A0.tmps.getD 25 undef, A0.tmps.getD 26 undef, A0.tmps.getD 27 undef, A0.tmps.getD 28 undef, A0.tmps.getD 29 undef, A0.tmps.getD 30 undef, A0.tmps.getD 31 undef, A0.tmps.getD 32 undef, A0.tmps.getD 33 undef, A0.tmps.getD 34 undef, A0.tmps.getD 35 undef, A0.tmps.getD 36 undef, A0.tmps.getD 37 undef, A0.tmps.getD 38 undef, A0.tmps.getD 39 undef, A0.tmps.getD 40 undef, A0.tmps.getD 41 undef, A0.tmps.getD 42 undef, A0.tmps.getD 43 undef, A0.tmps.getD 44 undef, A0.tmps.getD 45 undef, A0.tmps.getD 46 undef, A0.tmps.getD 47 undef, A0.tmps.getD 48 undef, A0.tmps.getD 49 undef, A0.tmps.getD 50 undef, A0.tmps.getD 51 undef, A0.tmps.getD 52 undef, A0.tmps.getD 53 undef, A0.tmps.getD 54 undef, A0.tmps.getD 55 undef, A0.tmps.getD 56 undef, A0.tmps.getD 57 undef, A0.tmps.getD 58 undef, A0.tmps.getD 59 undef, A0.tmps.getD 60 undef, A0.tmps.getD 61 undef, A0.tmps.getD 62 undef, A0.tmps.getD 63 undef, A0.tmps.getD 64 undef, A0.tmps.getD 65 undef, A0.tmps.getD 66 undef, .bool true, A0.tmps.getD 68 undef, A0.tmps.getD 69 undef, A0.tmps.getD 70 undef, A0.tmps.getD 71 undef, A0.tmps.getD 72 undef, A0.tmps.getD 73 undef, A0.tmps.getD 74 undef, A0.tmps.getD 75 undef, A0.tmps.getD 76 undef, A0.tmps.getD 77 undef, A0.tmps.getD 78 undef, A0.tmps.getD 79 undef, A0.tmps.getD 80 undef, A0.tmps.getD 81 undef, A0.tmps.getD 82 undef, A0.tmps.getD 83 undef], defers := [] }) ?rest1 (fun REST1 => ?_)
    case rest1 =>
      intro A wR hA hHeld
      obtain ⟨U, hU⟩ : ∃ U : Nat → Value, A = { tmps := #[a, b, undef, undef, U 4, .pointer (some ⟨vx, 0, none⟩), .pointer (some ⟨vy, 0, none⟩), .int .i64 c, U 8, U 9, U 10, U 11, U 12, U 13, U 14, U 15, U 16, U 17, U 18, U 19, U 20, U 21, U 22, U 23, U 24, U 25, U 26, U 27, U 28, U 29, U 30, U 31, U 32, U 33, U 34, U 35, U 36, U 37, U 38, U 39, U 40, U 41, U 42, U 43, U 44, U 45, U 46, U 47, U 48, U 49, U 50, U 51, U 52, U 53, U 54, U 55, U 56, U 57, U 58, U 59, U 60, U 61, U 62, U 63, U 64, U 65, U 66, .bool true, U 68, U 69, U 70, U 71, U 72, U 73, U 74, U 75, U 76, U 77, U 78, U 79, U 80, U 81, U 82, U 83], defers := [] } := ⟨fun k => A.tmps.getD k undef, hA⟩
      clear hA
      subst hU
      (try dsimp only at hHeld)
      refine take_at 21 (by kernel_rfl) (by kernel_rfl) (by kernel_rfl) (fun _ _ _ _ _ h => h) ⟨_, rfl⟩ (by assumption) (fun o ho => ?_)
      simp only [List.getElem?_toArray, List.getElem?_cons_succ, List.getElem?_cons_zero, Option.some.injEq] at ho
      subst ho
      refine ⟨?_, ⟨by rfl, ?_⟩, ?_⟩
      rotate_left
      · intro w hSw
        (try dsimp only at hSw)
        (go_simp; try with_reducible rfl)
      (try simp only [Act.put, List.setIfInBounds_toArray, List.set_cons_zero, List.set_cons_succ])
      refine take_at 22 (by kernel_rfl) (by kernel_rfl) (by kernel_rfl) (fun _ _ _ _ _ h => h) ⟨_, rfl⟩ (by assumption) (fun o ho => ?_)
      simp only [List.getElem?_toArray, List.getElem?_cons_succ, List.getElem?_cons_zero, Option.some.injEq] at ho
      subst ho
      refine ⟨?_, ⟨by rfl, ?_⟩, ?_⟩
      rotate_left
      · intro w hSw
        (try dsimp only at hSw)
        (go_simp; try with_reducible rfl)
      (try simp only [Act.put, List.setIfInBounds_toArray, List.set_cons_zero, List.set_cons_succ])
      refine take_at 24 (by kernel_rfl) (by kernel_rfl) (by kernel_rfl) (fun _ _ _ _ _ h => h) ⟨_, rfl⟩ (by assumption) (fun o ho => ?_)
      simp only [List.getElem?_toArray, List.getElem?_cons_succ, List.getElem?_cons_zero, Option.some.injEq] at ho
      subst ho
      refine ⟨?_, ⟨by rfl, ?_⟩, ?_⟩
      rotate_left
      · intro w hSw
        (try dsimp only at hSw)
        (go_simp; try with_reducible rfl)
      (try simp only [Act.put, List.setIfInBounds_toArray, List.set_cons_zero, List.set_cons_succ])
      refine take_at 27 (by kernel_rfl) (by kernel_rfl) (by kernel_rfl) (fun _ _ _ _ _ h => h) ⟨_, rfl⟩ (by assumption) (fun o ho => ?_)
      simp only [List.getElem?_toArray, List.getElem?_cons_succ, List.getElem?_cons_zero, Option.some.injEq] at ho
      subst ho
      refine ⟨?_, ⟨by rfl, ?_⟩, ?_⟩
      rotate_left
      · intro w hSw
        (try dsimp only at hSw)
        (go_simp; try with_reducible rfl)
      (try simp only [Act.put, List.setIfInBounds_toArray, List.set_cons_zero, List.set_cons_succ])
      refine take_at 28 (by kernel_rfl) (by kernel_rfl) (by kernel_rfl) (fun _ _ _ _ _ h => h) ⟨_, rfl⟩ (by assumption) (fun o ho => ?_)
      simp only [List.getElem?_toArray, List.getElem?_cons_succ, List.getElem?_cons_zero, Option.some.injEq] at ho
      subst ho
      refine ⟨?_, ⟨by rfl, ?_⟩, ?_⟩
      rotate_left
      · intro w hSw
        (try dsimp only at hSw)
        (go_simp; try with_reducible rfl)
      (try simp only [Act.put, List.setIfInBounds_toArray, List.set_cons_zero, List.set_cons_succ])
      refine take_at 30 (by kernel_rfl) (by kernel_rfl) (by kernel_rfl) (fun _ _ _ _ _ h => h) ⟨_, rfl⟩ (by assumption) (fun o ho => ?_)
      simp only [List.getElem?_toArray, List.getElem?_cons_succ, List.getElem?_cons_zero, Option.some.injEq] at ho
      subst ho
      refine ⟨?_, ⟨by rfl, ?_⟩, ?_⟩
      rotate_left
      · intro w hSw
        (try dsimp only at hSw)
        (go_simp; try with_reducible rfl)
      (try simp only [Act.put, List.setIfInBounds_toArray, List.set_cons_zero, List.set_cons_succ])
      refine wpAnyH_ready (rs := [23, 31]) (by kernel_rfl) (by simp) ?_
      refine ready_at 23 ⟨_, rfl⟩ (fun o ho K hK => ?_) ?_
      · simp only [List.getElem?_toArray, List.getElem?_cons_succ, List.getElem?_cons_zero, Option.some.injEq] at ho
        subst ho
        go_simp
        (first
          | (go_at_call_of 35 gx; (try clear hS); refine (list_any _ gx nx _ (by omega)).mono ?_; rintro e wn ⟨rfl, hb⟩; have hS := below_on (s_below (by assumption)) hb; (first | have hR := Arr2.below (Arr2.new _ gx ux nx gy uy ny) hb | have hR := Arr2.below (Arr2.new _ gx ux nx gy uy ny).drew hb | replace hR := Arr2.below hR hb | skip); (first | have hQ := Arr1.below (Arr1.new _ gx ux nx) hb | replace hQ := Arr1.below hQ hb | skip); clear hb)
          | (go_at_call_of 35 gy; (try clear hS); refine (list_any _ gy ny _ (by omega)).mono ?_; rintro e wn ⟨rfl, hb⟩; have hS := below_on (s_below (by assumption)) hb; (first | have hR := Arr2.below (Arr2.new _ gx ux nx gy uy ny) hb | have hR := Arr2.below (Arr2.new _ gx ux nx gy uy ny).drew hb | replace hR := Arr2.below hR hb | skip); (first | have hQ := Arr1.below (Arr1.new _ gx ux nx) hb | replace hQ := Arr1.below hQ hb | skip); clear hb))
        refine hK.out _ _ ?_ (fun hHeld2 => ?_)
        · (try dsimp only)
          (first | assumption | exact HS0.out _ (by assumption) | exact HS0.out _ (Below.drew (by assumption)) | exact HS0.out _ (Below.refl _ _).drew | exact HS0.out _ (below_on (s_below (by assumption)) (below_alloc1 _ _)))
        replace hHeld := hHeld2
        clear hK K hHeld2
        (try dsimp only at hHeld)
        (try simp only [List.setIfInBounds_toArray, List.set_cons_zero, List.set_cons_succ])
        refine wpAnyH_ready (rs := [25, 31]) (by kernel_rfl) (by simp) ?_
        refine ready_at 25 ⟨_, rfl⟩ (fun o ho K hK => ?_) ?_
        · simp only [List.getElem?_toArray, List.getElem?_cons_succ, List.getElem?_cons_zero, Option.some.injEq] at ho
          subst ho
          go_simp
          (first
            | (go_at_call_of 35 gx; (try clear hS); refine (list_any _ gx nx _ (by omega)).mono ?_; rintro e wn ⟨rfl, hb⟩; have hS := below_on (s_below (by assumption)) hb; (first | have hR := Arr2.below (Arr2.new _ gx ux nx gy uy ny) hb | have hR := Arr2.below (Arr2.new _ gx ux nx gy uy ny).drew hb | replace hR := Arr2.below hR hb | skip); (first | have hQ := Arr1.below (Arr1.new _ gx ux nx) hb | replace hQ := Arr1.below hQ hb | skip); clear hb)
            | (go_at_call_of 35 gy; (try clear hS); refine (list_any _ gy ny _ (by omega)).mono ?_; rintro e wn ⟨rfl, hb⟩; have hS := below_on (s_below (by assumption)) hb; (first | have hR := Arr2.below (Arr2.new _ gx ux nx gy uy ny) hb | have hR := Arr2.below (Arr2.new _ gx ux nx gy uy ny).drew hb | replace hR := Arr2.below hR hb | skip); (first | have hQ := Arr1.below (Arr1.new _ gx ux nx) hb | replace hQ := Arr1.below hQ hb | skip); clear hb))
          refine hK.out _ _ ?_ (fun hHeld2 => ?_)
          · (try dsimp only)
            (first | assumption | exact HS0.out _ (by assumption) | exact HS0.out _ (Below.drew (by assumption)) | exact HS0.out _ (Below.refl _ _).drew | exact HS0.out _ (below_on (s_below (by assumption)) (below_alloc1 _ _)))
          replace hHeld := hHeld2
          clear hK K hHeld2
          (try dsimp only at hHeld)
          (try simp only [List.setIfInBounds_toArray, List.set_cons_zero, List.set_cons_succ])
          refine wpAnyH_ready (rs := [26, 31]) (by kernel_rfl) (by simp) ?_
          refine ready_at 26 ⟨_, rfl⟩ (fun o ho K hK => ?_) ?_
          · simp only [List.getElem?_toArray, List.getElem?_cons_succ, List.getElem?_cons_zero, Option.some.injEq] at ho
            subst ho
            go_simp
            (first
              | (go_at_call_of 56 gy; (try clear hS); refine (add_v (hx.below (s_below (by assumption))).val (hy.below (s_below (by assumption))).val (by omega)).mono ?_; rintro e w6 ⟨v6, rfl, ⟨g6, n6, c6, rfl, ho6, hn6⟩, hb⟩; have hz6 := size_on (s_below (by assumption)) hb; have hS := below_on (s_below (by assumption)) hb; (first | have hR := Arr2.below (Arr2.new _ gx ux nx gy uy ny) hb | have hR := Arr2.below (Arr2.new _ gx ux nx gy uy ny).drew hb | replace hR := Arr2.below hR hb | skip); (first | have hQ := Arr1.below (Arr1.new _ gx ux nx) hb | replace hQ := Arr1.below hQ hb | skip); clear hb)
              | (go_at_call 56; (try clear hS); refine (add_v (hx.below (s_below (by assumption))).val (hx.below (s_below (by assumption))).val (by omega)).mono ?_; rintro e w6 ⟨v6, rfl, ⟨g6, n6, c6, rfl, ho6, hn6⟩, hb⟩; have hz6 := size_on (s_below (by assumption)) hb; have hS := below_on (s_below (by assumption)) hb; (first | have hR := Arr2.below (Arr2.new _ gx ux nx gy uy ny) hb | have hR := Arr2.below (Arr2.new _ gx ux nx gy uy ny).drew hb | replace hR := Arr2.below hR hb | skip); (first | have hQ := Arr1.below (Arr1.new _ gx ux nx) hb | replace hQ := Arr1.below hQ hb | skip); clear hb))
            refine hK.out _ _ ?_ (fun hHeld2 => ?_)
            · (try dsimp only)
              (first | assumption | exact HS0.out _ (by assumption) | exact HS0.out _ (Below.drew (by assumption)) | exact HS0.out _ (Below.refl _ _).drew | exact HS0.out _ (below_on (s_below (by assumption)) (below_alloc1 _ _)))
            replace hHeld := hHeld2
            clear hK K hHeld2
            (try dsimp only at hHeld)
            (try simp only [List.setIfInBounds_toArray, List.set_cons_zero, List.set_cons_succ])
            refine wpAnyH_ready (rs := [29, 31]) (by kernel_rfl) (by simp) ?_
            refine ready_at 29 ⟨_, rfl⟩ (fun o ho K hK => ?_) ?_
            · simp only [List.getElem?_toArray, List.getElem?_cons_succ, List.getElem?_cons_zero, Option.some.injEq] at ho
              subst ho
              go_simp
              (first
                | (go_at_call_of 60 b; (try clear hS); refine (radd_v (h_a.below (s_below (by assumption))) (h_b.below (s_below (by assumption))) (by omega) (by omega)).mono ?_; rintro e w7 ⟨v7, rfl, ⟨A7, m7, d7, rfl, hs7, hn7⟩, hb⟩; have hS := below_on (s_below (by assumption)) hb; have hA7 : Below w6.heap.size w6 w7 := (by first | exact hb | exact below_on (below_alloc1 _ _) hb | exact below_on (below_drew1 _) hb | exact below_on (below_on (below_drew1 _) (below_alloc1 _ _)) hb); replace ho6 := ho6.below hA7; clear hA7; (first | have hR := Arr2.below (Arr2.new _ gx ux nx gy uy ny) hb | have hR := Arr2.below (Arr2.new _ gx ux nx gy uy ny).drew hb | replace hR := Arr2.below hR hb | skip); (first | have hQ := Arr1.below (Arr1.new _ gx ux nx) hb | replace hQ := Arr1.below hQ hb | skip); clear hb)
                | (go_at_call 60; (try clear hS); refine (radd_v (h_a.below (s_below (by assumption))) (h_a.below (s_below (by assumption))) (by omega) (by omega)).mono ?_; rintro e w7 ⟨v7, rfl, ⟨A7, m7, d7, rfl, hs7, hn7⟩, hb⟩; have hS := below_on (s_below (by assumption)) hb; have hA7 : Below w6.heap.size w6 w7 := (by first | exact hb | exact below_on (below_alloc1 _ _) hb | exact below_on (below_drew1 _) hb | exact below_on (below_on (below_drew1 _) (below_alloc1 _ _)) hb); replace ho6 := ho6.below hA7; clear hA7; (first | have hR := Arr2.below (Arr2.new _ gx ux nx gy uy ny) hb | have hR := Arr2.below (Arr2.new _ gx ux nx gy uy ny).drew hb | replace hR := Arr2.below hR hb | skip); (first | have hQ := Arr1.below (Arr1.new _ gx ux nx) hb | replace hQ := Arr1.below hQ hb | skip); clear hb))
              refine hK.out _ _ ?_ (fun hHeld2 => ?_)
              · (try dsimp only)
                (first | assumption | exact HS0.out _ (by assumption) | exact HS0.out _ (Below.drew (by assumption)) | exact HS0.out _ (Below.refl _ _).drew | exact HS0.out _ (below_on (s_below (by assumption)) (below_alloc1 _ _)))
              replace hHeld := hHeld2
              clear hK K hHeld2
              (try dsimp only at hHeld)
              (try simp only [List.setIfInBounds_toArray, List.set_cons_zero, List.set_cons_succ])
              refine wpAnyH_ready (rs := [31]) (by kernel_rfl) (by simp) ?_
              refine ready_at 31 ⟨_, rfl⟩ (fun o ho K hK => ?_) ?_
              · simp only [List.getElem?_toArray, List.getElem?_cons_succ, List.getElem?_cons_zero, Option.some.injEq] at ho
                subst ho
                go_simp
                refine hK.out _ _ ?_ (fun hHeld2 => ?_)
                · (try dsimp only)
                  (first | assumption | exact HS0.out _ (by assumption) | exact HS0.out _ (Below.drew (by assumption)) | exact HS0.out _ (Below.refl _ _).drew | exact HS0.out _ (below_on (s_below (by assumption)) (below_alloc1 _ _)))
                replace hHeld := hHeld2
                clear hK K hHeld2
                (try dsimp only at hHeld)
                (try simp only [List.setIfInBounds_toArray, List.set_cons_zero, List.set_cons_succ])
                refine wpAnyH_ready (rs := [32]) (by kernel_rfl) (by simp) ?_
                refine ready_at 32 ⟨_, rfl⟩ (fun o ho K hK => ?_) ?_
                · simp only [List.getElem?_toArray, List.getElem?_cons_succ, List.getElem?_cons_zero, Option.some.injEq] at ho
                  subst ho
                  go_simp
                  (first
                    | (go_at_call_of 38 (2 : Nat); (try clear hS); refine (is_two (by first | exact ho6 | exact ho6.below (below_alloc1 _ _)) (by first | exact hs7 | exact hs7.below (below_alloc1 _ _)) (by omega) (by first | exact Arr2.new _ gx ux nx gy uy ny | exact hR) (hx.below (s_below (by assumption))) (hy.below (s_below (by assumption))) (by omega) (by omega) (by have := ho6.base_le; omega) hlx hly (by omega)).mono ?_; rintro e wn ⟨rfl, hg⟩; have hS := below_gb (s_below (by assumption)) hg (by have := ho6.base_le; omega); clear hg ho6 hs7 hz6; (try clear hR); (try clear hQ))
                    | (go_at_call_of 38 (1 : Nat); (try clear hS); refine (is_one (by first | exact ho6 | exact ho6.below (below_alloc1 _ _)) (by first | exact hs7 | exact hs7.below (below_alloc1 _ _)) (by omega) (by first | exact Arr1.new _ gx ux nx | exact hQ) (hx.below (s_below (by assumption))) (by omega) (by have := ho6.base_le; omega) hlx (by omega)).mono ?_; rintro e wn ⟨rfl, hg⟩; have hS := below_gb (s_below (by assumption)) hg (by have := ho6.base_le; omega); clear hg ho6 hs7 hz6; (try clear hR); (try clear hQ)))
                  refine hK.out _ _ ?_ (fun hHeld2 => ?_)
                  · (try dsimp only)
                    (first | assumption | exact HS0.out _ (by assumption) | exact HS0.out _ (Below.drew (by assumption)) | exact HS0.out _ (Below.refl _ _).drew | exact HS0.out _ (below_on (s_below (by assumption)) (below_alloc1 _ _)))
                  replace hHeld := hHeld2
                  clear hK K hHeld2
                  (try dsimp only at hHeld)
                  (try simp only [List.setIfInBounds_toArray, List.set_cons_zero, List.set_cons_succ])
                  refine take_at 33 (by kernel_rfl) (by kernel_rfl) (by kernel_rfl) (fun _ _ _ _ _ h => h) ⟨_, rfl⟩ (by assumption) (fun o ho => ?_)
                  simp only [List.getElem?_toArray, List.getElem?_cons_succ, List.getElem?_cons_zero, Option.some.injEq] at ho
                  subst ho
                  refine ⟨?_, ⟨by rfl, ?_⟩, ?_⟩
                  rotate_left
                  · intro w hSw
                    (try dsimp only at hSw)
                    (go_simp; try with_reducible rfl)
                  (try simp only [Act.put, List.setIfInBounds_toArray, List.set_cons_zero, List.set_cons_succ])
                  exact REST2 _ _ rfl hHeld
                exact AllReadyH.nil
              exact AllReadyH.nil
            refine ready_at 31 ⟨_, rfl⟩ (fun o ho K hK => ?_) ?_
            · simp only [List.getElem?_toArray, List.getElem?_cons_succ, List.getElem?_cons_zero, Option.some.injEq] at ho
              subst ho
              go_simp
              refine hK.out _ _ ?_ (fun hHeld2 => ?_)
              · (try dsimp only)
                (first | assumption | exact HS0.out _ (by assumption) | exact HS0.out _ (Below.drew (by assumption)) | exact HS0.out _ (Below.refl _ _).drew | exact HS0.out _ (below_on (s_below (by assumption)) (below_alloc1 _ _)))
              replace hHeld := hHeld2
              clear hK K hHeld2
              (try dsimp only at hHeld)
              (try simp only [List.setIfInBounds_toArray, List.set_cons_zero, List.set_cons_succ])
              refine wpAnyH_ready (rs := [29]) (by kernel_rfl) (by simp) ?_
              refine ready_at 29 ⟨_, rfl⟩ (fun o ho K hK => ?_) ?_
              · simp only [List.getElem?_toArray, List.getElem?_cons_succ, List.getElem?_cons_zero, Option.some.injEq] at ho
                subst ho
                go_simp
                (first
                  | (go_at_call_of 60 b; (try clear hS); refine (radd_v (h_a.below (s_below (by assumption))) (h_b.below (s_below (by assumption))) (by omega) (by omega)).mono ?_; rintro e w7 ⟨v7, rfl, ⟨A7, m7, d7, rfl, hs7, hn7⟩, hb⟩; have hS := below_on (s_below (by assumption)) hb; have hA7 : Below w6.heap.size w6 w7 := (by first | exact hb | exact below_on (below_alloc1 _ _) hb | exact below_on (below_drew1 _) hb | exact below_on (below_on (below_drew1 _) (below_alloc1 _ _)) hb); replace ho6 := ho6.below hA7; clear hA7; (first | have hR := Arr2.below (Arr2.new _ gx ux nx gy uy ny) hb | have hR := Arr2.below (Arr2.new _ gx ux nx gy uy ny).drew hb | replace hR := Arr2.below hR hb | skip); (first | have hQ := Arr1.below (Arr1.new _ gx ux nx) hb | replace hQ := Arr1.below hQ hb | skip); clear hb)
                  | (go_at_call 60; (try clear hS); refine (radd_v (h_a.below (s_below (by assumption))) (h_a.below (s_below (by assumption))) (by omega) (by omega)).mono ?_; rintro e w7 ⟨v7, rfl, ⟨A7, m7, d7, rfl, hs7, hn7⟩, hb⟩; have hS := below_on (s_below (by assumption)) hb; have hA7 : Below w6.heap.size w6 w7 := (by first | exact hb | exact below_on (below_alloc1 _ _) hb | exact below_on (below_drew1 _) hb | exact below_on (below_on (below_drew1 _) (below_alloc1 _ _)) hb); replace ho6 := ho6.below hA7; clear hA7; (first | have hR := Arr2.below (Arr2.new _ gx ux nx gy uy ny) hb | have hR := Arr2.below (Arr2.new _ gx ux nx gy uy ny).drew hb | replace hR := Arr2.below hR hb | skip); (first | have hQ := Arr1.below (Arr1.new _ gx ux nx) hb | replace hQ := Arr1.below hQ hb | skip); clear hb))
                refine hK.out _ _ ?_ (fun hHeld2 => ?_)
                · (try dsimp only)
                  (first | assumption | exact HS0.out _ (by assumption) | exact HS0.out _ (Below.drew (by assumption)) | exact HS0.out _ (Below.refl _ _).drew | exact HS0.out _ (below_on (s_below (by assumption)) (below_alloc1 _ _)))
                replace hHeld := hHeld2
                clear hK K hHeld2
                (try dsimp only at hHeld)
                (try simp only [List.setIfInBounds_toArray, List.set_cons_zero, List.set_cons_succ])
                refine wpAnyH_ready (rs := [32]) (by kernel_rfl) (by simp) ?_
                refine ready_at 32 ⟨_, rfl⟩ (fun o ho K hK => ?_) ?_
                · simp only [List.getElem?_toArray, List.getElem?_cons_succ, List.getElem?_cons_zero, Option.some.injEq] at ho
                  subst ho
                  go_simp
                  (first
                    | (go_at_call_of 38 (2 : Nat); (try clear hS); refine (is_two (by first | exact ho6 | exact ho6.below (below_alloc1 _ _)) (by first | exact hs7 | exact hs7.below (below_alloc1 _ _)) (by omega) (by first | exact Arr2.new _ gx ux nx gy uy ny | exact hR) (hx.below (s_below (by assumption))) (hy.below (s_below (by assumption))) (by omega) (by omega) (by have := ho6.base_le; omega) hlx hly (by omega)).mono ?_; rintro e wn ⟨rfl, hg⟩; have hS := below_gb (s_below (by assumption)) hg (by have := ho6.base_le; omega); clear hg ho6 hs7 hz6; (try clear hR); (try clear hQ))
                    | (go_at_call_of 38 (1 : Nat); (try clear hS); refine (is_one (by first | exact ho6 | exact ho6.below (below_alloc1 _ _)) (by first | exact hs7 | exact hs7.below (below_alloc1 _ _)) (by omega) (by first | exact Arr1.new _ gx ux nx | exact hQ) (hx.below (s_below (by assumption))) (by omega) (by have := ho6.base_le; omega) hlx (by omega)).mono ?_; rintro e wn ⟨rfl, hg⟩; have hS := below_gb (s_below (by assumption)) hg (by have := ho6.base_le; omega); clear hg ho6 hs7 hz6; (try clear hR); (try clear hQ)))
                  refine hK.out _ _ ?_ (fun hHeld2 => ?_)
                  · (try dsimp only)
                    (first | assumption | exact HS0.out _ (by assumption) | exact HS0.out _ (Below.drew (by assumption)) | exact HS0.out _ (Below.refl _ _).drew | exact HS0.out _ (below_on (s_below (by assumption)) (below_alloc1 _ _)))
                  replace hHeld := hHeld2
                  clear hK K hHeld2
                  (try dsimp only at hHeld)
                  (try simp only [List.setIfInBounds_toArray, List.set_cons_zero, List.set_cons_succ])
                  refine take_at 33 (by kernel_rfl) (by kernel_rfl) (by kernel_rfl) (fun _ _ _ _ _ h => h) ⟨_, rfl⟩ (by assumption) (fun o ho => ?_)
                  simp only [List.getElem?_toArray, List.getElem?_cons_succ, List.getElem?_cons_zero, Option.some.injEq] at ho
                  subst ho
                  refine ⟨?_, ⟨by rfl, ?_⟩, ?_⟩
                  rotate_left
                  · intro w hSw
                    (try dsimp only at hSw)
                    (go_simp; try with_reducible rfl)
                  (try simp only [Act.put, List.setIfInBounds_toArray, List.set_cons_zero, List.set_cons_succ])
                  exact REST2 _ _ rfl hHeld
                exact AllReadyH.nil
              exact AllReadyH.nil
            exact AllReadyH.nil
          refine ready_at 31 ⟨_, rfl⟩ (fun o ho K hK => ?_) ?_
          · simp only [List.getElem?_toArray, List.getElem?_cons_succ, List.getElem?_cons_zero, Option.some.injEq] at ho
            subst ho
            go_simp
            refine hK.out _ _ ?_ (fun hHeld2 => ?_)
            · (try dsimp only)
              (first | assumption | exact HS0.out _ (by assumption) | exact HS0.out _ (Below.drew (by assumption)) | exact HS0.out _ (Below.refl _ _).drew | exact HS0.out _ (below_on (s_below (by assumption)) (below_alloc1 _ _)))
            replace hHeld := hHeld2
            clear hK K hHeld2
            (try dsimp only at hHeld)
            (try simp only [List.setIfInBounds_toArray, List.set_cons_zero, List.set_cons_succ])
            refine wpAnyH_ready (rs := [26]) (by kernel_rfl) (by simp) ?_
            refine ready_at 26 ⟨_, rfl⟩ (fun o ho K hK => ?_) ?_
            · simp only [List.getElem?_toArray, List.getElem?_cons_succ, List.getElem?_cons_zero, Option.some.injEq] at ho
              subst ho
              go_simp
              (first
                | (go_at_call_of 56 gy; (try clear hS); refine (add_v (hx.below (s_below (by assumption))).val (hy.below (s_below (by assumption))).val (by omega)).mono ?_; rintro e w6 ⟨v6, rfl, ⟨g6, n6, c6, rfl, ho6, hn6⟩, hb⟩; have hz6 := size_on (s_below (by assumption)) hb; have hS := below_on (s_below (by assumption)) hb; (first | have hR := Arr2.below (Arr2.new _ gx ux nx gy uy ny) hb | have hR := Arr2.below (Arr2.new _ gx ux nx gy uy ny).drew hb | replace hR := Arr2.below hR hb | skip); (first | have hQ := Arr1.below (Arr1.new _ gx ux nx) hb | replace hQ := Arr1.below hQ hb | skip); clear hb)
                | (go_at_call 56; (try clear hS); refine (add_v (hx.below (s_below (by assumption))).val (hx.below (s_below (by assumption))).val (by omega)).mono ?_; rintro e w6 ⟨v6, rfl, ⟨g6, n6, c6, rfl, ho6, hn6⟩, hb⟩; have hz6 := size_on (s_below (by assumption)) hb; have hS := below_on (s_below (by assumption)) hb; (first | have hR := Arr2.below (Arr2.new _ gx ux nx gy uy ny) hb | have hR := Arr2.below (Arr2.new _ gx ux nx gy uy ny).drew hb | replace hR := Arr2.below hR hb | skip); (first | have hQ := Arr1.below (Arr1.new _ gx ux nx) hb | replace hQ := Arr1.below hQ hb | skip); clear hb))
              refine hK.out _ _ ?_ (fun hHeld2 => ?_)
              · (try dsimp only)
                (first | assumption | exact HS0.out _ (by assumption) | exact HS0.out _ (Below.drew (by assumption)) | exact HS0.out _ (Below.refl _ _).drew | exact HS0.out _ (below_on (s_below (by assumption)) (below_alloc1 _ _)))
              replace hHeld := hHeld2
              clear hK K hHeld2
              (try dsimp only at hHeld)
              (try simp only [List.setIfInBounds_toArray, List.set_cons_zero, List.set_cons_succ])
              refine wpAnyH_ready (rs := [29]) (by kernel_rfl) (by simp) ?_
              refine ready_at 29 ⟨_, rfl⟩ (fun o ho K hK => ?_) ?_
              · simp only [List.getElem?_toArray, List.getElem?_cons_succ, List.getElem?_cons_zero, Option.some.injEq] at ho
                subst ho
                go_simp
                (first
                  | (go_at_call_of 60 b; (try clear hS); refine (radd_v (h_a.below (s_below (by assumption))) (h_b.below (s_below (by assumption))) (by omega) (by omega)).mono ?_; rintro e w7 ⟨v7, rfl, ⟨A7, m7, d7, rfl, hs7, hn7⟩, hb⟩; have hS := below_on (s_below (by assumption)) hb; have hA7 : Below w6.heap.size w6 w7 := (by first | exact hb | exact below_on (below_alloc1 _ _) hb | exact below_on (below_drew1 _) hb | exact below_on (below_on (below_drew1 _) (below_alloc1 _ _)) hb); replace ho6 := ho6.below hA7; clear hA7; (first | have hR := Arr2.below (Arr2.new _ gx ux nx gy uy ny) hb | have hR := Arr2.below (Arr2.new _ gx ux nx gy uy ny).drew hb | replace hR := Arr2.below hR hb | skip); (first | have hQ := Arr1.below (Arr1.new _ gx ux nx) hb | replace hQ := Arr1.below hQ hb | skip); clear hb)
                  | (go_at_call 60; (try clear hS); refine (radd_v (h_a.below (s_below (by assumption))) (h_a.below (s_below (by assumption))) (by omega) (by omega)).mono ?_; rintro e w7 ⟨v7, rfl, ⟨A7, m7, d7, rfl, hs7, hn7⟩, hb⟩; have hS := below_on (s_below (by assumption)) hb; have hA7 : Below w6.heap.size w6 w7 := (by first | exact hb | exact below_on (below_alloc1 _ _) hb | exact below_on (below_drew1 _) hb | exact below_on (below_on (below_drew1 _) (below_alloc1 _ _)) hb); replace ho6 := ho6.below hA7; clear hA7; (first | have hR := Arr2.below (Arr2.new _ gx ux nx gy uy ny) hb | have hR := Arr2.below (Arr2.new _ gx ux nx gy uy ny).drew hb | replace hR := Arr2.below hR hb | skip); (first | have hQ := Arr1.below (Arr1.new _ gx ux nx) hb | replace hQ := Arr1.below hQ hb | skip); clear hb))
                refine hK.out _ _ ?_ (fun hHeld2 => ?_)
                · (try dsimp only)
                  (first | assumption | exact HS0.out _ (by assumption) | exact HS0.out _ (Below.drew (by assumption)) | exact HS0.out _ (Below.refl _ _).drew | exact HS0.out _ (below_on (s_below (by assumption)) (below_alloc1 _ _)))
                replace hHeld := hHeld2
                clear hK K hHeld2
                (try dsimp only at hHeld)
                (try simp only [List.setIfInBounds_toArray, List.set_cons_zero, List.set_cons_succ])
                refine wpAnyH_ready (rs := [32]) (by kernel_rfl) (by simp) ?_
                refine ready_at 32 ⟨_, rfl⟩ (fun o ho K hK => ?_) ?_
                · simp only [List.getElem?_toArray, List.getElem?_cons_succ, List.getElem?_cons_zero, Option.some.injEq] at ho
                  subst ho
                  go_simp
                  (first
                    | (go_at_call_of 38 (2 : Nat); (try clear hS); refine (is_two (by first | exact ho6 | exact ho6.below (below_alloc1 _ _)) (by first | exact hs7 | exact hs7.below (below_alloc1 _ _)) (by omega) (by first | exact Arr2.new _ gx ux nx gy uy ny | exact hR) (hx.below (s_below (by assumption))) (hy.below (s_below (by assumption))) (by omega) (by omega) (by have := ho6.base_le; omega) hlx hly (by omega)).mono ?_; rintro e wn ⟨rfl, hg⟩; have hS := below_gb (s_below (by assumption)) hg (by have := ho6.base_le; omega); clear hg ho6 hs7 hz6; (try clear hR); (try clear hQ))
                    | (go_at_call_of 38 (1 : Nat); (try clear hS); refine (is_one (by first | exact ho6 | exact ho6.below (below_alloc1 _ _)) (by first | exact hs7 | exact hs7.below (below_alloc1 _ _)) (by omega) (by first | exact Arr1.new _ gx ux nx | exact hQ) (hx.below (s_below (by assumption))) (by omega) (by have := ho6.base_le; omega) hlx (by omega)).mono ?_; rintro e wn ⟨rfl, hg⟩; have hS := below_gb (s_below (by assumption)) hg (by have := ho6.base_le; omega); clear hg ho6 hs7 hz6; (try clear hR); (try clear hQ)))
                  refine hK.out _ _ ?_ (fun hHeld2 => ?_)
                  · (try dsimp only)
                    (first | assumption | exact HS0.out _ (by assumption) | exact HS0.out _ (Below.drew (by assumption)) | exact HS0.out _ (Below.refl _ _).drew | exact HS0.out _ (below_on (s_below (by assumption)) (below_alloc1 _ _)))
                  replace hHeld := hHeld2
                  clear hK K hHeld2
                  (try dsimp only at hHeld)
                  (try simp only [List.setIfInBounds_toArray, List.set_cons_zero, List.set_cons_succ])
                  refine take_at 33 (by kernel_rfl) (by kernel_rfl) (by kernel_rfl) (fun _ _ _ _ _ h => h) ⟨_, rfl⟩ (by assumption) (fun o ho => ?_)
                  simp only [List.getElem?_toArray, List.getElem?_cons_succ, List.getElem?_cons_zero, Option.some.injEq] at ho
                  subst ho
                  refine ⟨?_, ⟨by rfl, ?_⟩, ?_⟩
                  rotate_left
                  · intro w hSw
                    (try dsimp only at hSw)
                    (go_simp; try with_reducible rfl)
                  (try simp only [Act.put, List.setIfInBounds_toArray, List.set_cons_zero, List.set_cons_succ])
                  exact REST2 _ _ rfl hHeld
                exact AllReadyH.nil
              exact AllReadyH.nil
            exact AllReadyH.nil
          exact AllReadyH.nil
        refine ready_at 31 ⟨_, rfl⟩ (fun o ho K hK => ?_) ?_
        · simp only [List.getElem?_toArray, List.getElem?_cons_succ, List.getElem?_cons_zero, Option.some.injEq] at ho
          subst ho
          go_simp
          refine hK.out _ _ ?_ (fun hHeld2 => ?_)
          · (try dsimp only)
            (first | assumption | exact HS0.out _ (by assumption) | exact HS0.out _ (Below.drew (by assumption)) | exact HS0.out _ (Below.refl _ _).drew | exact HS0.out _ (below_on (s_below (by assumption)) (below_alloc1 _ _)))
          replace hHeld := hHeld2
          clear hK K hHeld2
          (try dsimp only at hHeld)
          (try simp only [List.setIfInBounds_toArray, List.set_cons_zero, List.set_cons_succ])
          refine wpAnyH_ready (rs := [25]) (by kernel_rfl) (by simp) ?_
          refine ready_at 25 ⟨_, rfl⟩ (fun o ho K hK => ?_) ?_
          · simp only [List.getElem?_toArray, List.getElem?_cons_succ, List.getElem?_cons_zero, Option.some.injEq] at ho
            subst ho
            go_simp
            (first
              | (go_at_call_of 35 gx; (try clear hS); refine (list_any _ gx nx _ (by omega)).mono ?_; rintro e wn ⟨rfl, hb⟩; have hS := below_on (s_below (by assumption)) hb; (first | have hR := Arr2.below (Arr2.new _ gx ux nx gy uy ny) hb | have hR := Arr2.below (Arr2.new _ gx ux nx gy uy ny).drew hb | replace hR := Arr2.below hR hb | skip); (first | have hQ := Arr1.below (Arr1.new _ gx ux nx) hb | replace hQ := Arr1.below hQ hb | skip); clear hb)
              | (go_at_call_of 35 gy; (try clear hS); refine (list_any _ gy ny _ (by omega)).mono ?_; rintro e wn ⟨rfl, hb⟩; have hS := below_on (s_below (by assumption)) hb; (first | have hR := Arr2.below (Arr2.new _ gx ux nx gy uy ny) hb | have hR := Arr2.below (Arr2.new _ gx ux nx gy uy ny).drew hb | replace hR := Arr2.below hR hb | skip); (first | have hQ := Arr1.below (Arr1.new _ gx ux nx) hb | replace hQ := Arr1.below hQ hb | skip); clear hb))
            refine hK.out _ _ ?_ (fun hHeld2 => ?_)
            · (try dsimp only)
              (first | assumption | exact HS0.out _ (by assumption) | exact HS0.out _ (Below.drew (by assumption)) | exact HS0.out _ (Below.refl _ _).drew | exact HS0.out _ (below_on (s_below (by assumption)) (below_alloc1 _ _)))
            replace hHeld := hHeld2
            clear hK K hHeld2
            (try dsimp only at hHeld)
            (try simp only [List.setIfInBounds_toArray, List.set_cons_zero, List.set_cons_succ])
            refine wpAnyH_ready (rs := [26]) (by kernel_rfl) (by simp) ?_
            refine ready_at 26 ⟨_, rfl⟩ (fun o ho K hK => ?_) ?_
            · simp only [List.getElem?_toArray, List.getElem?_cons_succ, List.getElem?_cons_zero, Option.some.injEq] at ho
              subst ho
              go_simp
              (first
                | (go_at_call_of 56 gy; (try clear hS); refine (add_v (hx.below (s_below (by assumption))).val (hy.below (s_below (by assumption))).val (by omega)).mono ?_; rintro e w6 ⟨v6, rfl, ⟨g6, n6, c6, rfl, ho6, hn6⟩, hb⟩; have hz6 := size_on (s_below (by assumption)) hb; have hS := below_on (s_below (by assumption)) hb; (first | have hR := Arr2.below (Arr2.new _ gx ux nx gy uy ny) hb | have hR := Arr2.below (Arr2.new _ gx ux nx gy uy ny).drew hb | replace hR := Arr2.below hR hb | skip); (first | have hQ := Arr1.below (Arr1.new _ gx ux nx) hb | replace hQ := Arr1.below hQ hb | skip); clear hb)
                | (go_at_call 56; (try clear hS); refine (add_v (hx.below (s_below (by assumption))).val (hx.below (s_below (by assumption))).val (by omega)).mono ?_; rintro e w6 ⟨v6, rfl, ⟨g6, n6, c6, rfl, ho6, hn6⟩, hb⟩; have hz6 := size_on (s_below (by assumption)) hb; have hS := below_on (s_below (by assumption)) hb; (first | have hR := Arr2.below (Arr2.new _ gx ux nx gy uy ny) hb | have hR := Arr2.below (Arr2.new _ gx ux nx gy uy ny).drew hb | replace hR := Arr2.below hR hb | skip); (first | have hQ := Arr1.below (Arr1.new _ gx ux nx) hb | replace hQ := Arr1.below hQ hb | skip); clear hb))
              refine hK.out _ _ ?_ (fun hHeld2 => ?_)
              · (try dsimp only)
                (first | assumption | exact HS0.out _ (by assumption) | exact HS0.out _ (Below.drew (by assumption)) | exact HS0.out _ (Below.refl _ _).drew | exact HS0.out _ (below_on (s_below (by assumption)) (below_alloc1 _ _)))
              replace hHeld := hHeld2
              clear hK K hHeld2
              (try dsimp only at hHeld)
              (try simp only [List.setIfInBounds_toArray, List.set_cons_zero, List.set_cons_succ])
              refine wpAnyH_ready (rs := [29]) (by kernel_rfl) (by simp) ?_
              refine ready_at 29 ⟨_, rfl⟩ (fun o ho K hK => ?_) ?_
              · simp only [List.getElem?_toArray, List.getElem?_cons_succ, List.getElem?_cons_zero, Option.some.injEq] at ho
                subst ho
                go_simp
                (first
                  | (go_at_call_of 60 b; (try clear hS); refine (radd_v (h_a.below (s_below (by assumption))) (h_b.below (s_below (by assumption))) (by omega) (by omega)).mono ?_; rintro e w7 ⟨v7, rfl, ⟨A7, m7, d7, rfl, hs7, hn7⟩, hb⟩; have hS := below_on (s_below (by assumption)) hb; have hA7 : Below w6.heap.size w6 w7 := (by first | exact hb | exact below_on (below_alloc1 _ _) hb | exact below_on (below_drew1 _) hb | exact below_on (below_on (below_drew1 _) (below_alloc1 _ _)) hb); replace ho6 := ho6.below hA7; clear hA7; (first | have hR := Arr2.below (Arr2.new _ gx ux nx gy uy ny) hb | have hR := Arr2.below (Arr2.new _ gx ux nx gy uy ny).drew hb | replace hR := Arr2.below hR hb | skip); (first | have hQ := Arr1.below (Arr1.new _ gx ux nx) hb | replace hQ := Arr1.below hQ hb | skip); clear hb)
                  | (go_at_call 60; (try clear hS); refine (radd_v (h_a.below (s_below (by assumption))) (h_a.below (s_below (by assumption))) (by omega) (by omega)).mono ?_; rintro e w7 ⟨v7, rfl, ⟨A7, m7, d7, rfl, hs7, hn7⟩, hb⟩; have hS := below_on (s_below (by assumption)) hb; have hA7 : Below w6.heap.size w6 w7 := (by first | exact hb | exact below_on (below_alloc1 _ _) hb | exact below_on (below_drew1 _) hb | exact below_on (below_on (below_drew1 _) (below_alloc1 _ _)) hb); replace ho6 := ho6.below hA7; clear hA7; (first | have hR := Arr2.below (Arr2.new _ gx ux nx gy uy ny) hb | have hR := Arr2.below (Arr2.new _ gx ux nx gy uy ny).drew hb | replace hR := Arr2.below hR hb | skip); (first | have hQ := Arr1.below (Arr1.new _ gx ux nx) hb | replace hQ := Arr1.below hQ hb | skip); clear hb))
                refine hK.out _ _ ?_ (fun hHeld2 => ?_)
                · (try dsimp only)
                  (first | assumption | exact HS0.out _ (by assumption) | exact HS0.out _ (Below.drew (by assumption)) | exact HS0.out _ (Below.refl _ _).drew | exact HS0.out _ (below_on (s_below (by assumption)) (below_alloc1 _ _)))
                replace hHeld := hHeld2
                clear hK K hHeld2
                (try dsimp only at hHeld)
                (try simp only [List.setIfInBounds_toArray, List.set_cons_zero, List.set_cons_succ])
                refine wpAnyH_ready (rs := [32]) (by kernel_rfl) (by simp) ?_
                refine ready_at 32 ⟨_, rfl⟩ (fun o ho K hK => ?_) ?_
                · simp only [List.getElem?_toArray, List.getElem?_cons_succ, List.getElem?_cons_zero, Option.some.injEq] at ho
                  subst ho
                  go_simp
                  (first
                    | (go_at_call_of 38 (2 : Nat); (try clear hS); refine (is_two (by first | exact ho6 | exact ho6.below (below_alloc1 _ _)) (by first | exact hs7 | exact hs7.below (below_alloc1 _ _)) (by omega) (by first | exact Arr2.new _ gx ux nx gy uy ny | exact hR) (hx.below (s_below (by assumption))) (hy.below (s_below (by assumption))) (by omega) (by omega) (by have := ho6.base_le; omega) hlx hly (by omega)).mono ?_; rintro e wn ⟨rfl, hg⟩; have hS := below_gb (s_below (by assumption)) hg (by have := ho6.base_le; omega); clear hg ho6 hs7 hz6; (try clear hR); (try clear hQ))
                    | (go_at_call_of 38 (1 : Nat); (try clear hS); refine (is_one (by first | exact ho6 | exact ho6.below (below_alloc1 _ _)) (by first | exact hs7 | exact hs7.below (below_alloc1 _ _)) (by omega) (by first | exact Arr1.new _ gx ux nx | exact hQ) (hx.below (s_below (by assumption))) (by omega) (by have := ho6.base_le; omega) hlx (by omega)).mono ?_; rintro e wn ⟨rfl, hg⟩; have hS := below_gb (s_below (by assumption)) hg (by have := ho6.base_le; omega); clear hg ho6 hs7 hz6; (try clear hR); (try clear hQ)))
                  refine hK.out _ _ ?_ (fun hHeld2 => ?_)
                  · (try dsimp only)
                    (first | assumption | exact HS0.out _ (by assumption) | exact HS0.out _ (Below.drew (by assumption)) | exact HS0.out _ (Below.refl _ _).drew | exact HS0.out _ (below_on (s_below (by assumption)) (below_alloc1 _ _)))
                  replace hHeld := hHeld2
                  clear hK K hHeld2
                  (try dsimp only at hHeld)
                  (try simp only [List.setIfInBounds_toArray, List.set_cons_zero, List.set_cons_succ])
                  refine take_at 33 (by kernel_rfl) (by kernel_rfl) (by kernel_rfl) (fun _ _ _ _ _ h => h) ⟨_, rfl⟩ (by assumption) (fun o ho => ?_)
                  simp only [List.getElem?_toArray, List.getElem?_cons_succ, List.getElem?_cons_zero, Option.some.injEq] at ho
                  subst ho
                  refine ⟨?_, ⟨by rfl, ?_⟩, ?_⟩
                  rotate_left
                  · intro w hSw
                    (try dsimp only at hSw)
                    (go_simp; try with_reducible rfl)
                  (try simp only [Act.put, List.setIfInBounds_toArray, List.set_cons_zero, List.set_cons_succ])
                  exact REST2 _ _ rfl hHeld
                exact AllReadyH.nil
              exact AllReadyH.nil
            exact AllReadyH.nil
          exact AllReadyH.nil
        exact AllReadyH.nil
      refine ready_at 31 ⟨_, rfl⟩ (fun o ho K hK => ?_) ?_
      · simp only [List.getElem?_toArray, List.getElem?_cons_succ, List.getElem?_cons_zero, Option.some.injEq] at ho
        subst ho
        go_simp
        refine hK.out _ _ ?_ (fun hHeld2 => ?_)
        · (try dsimp only)
          (first | assumption | exact HS0.out _ (by assumption) | exact HS0.out _ (Below.drew (by assumption)) | exact HS0.out _ (Below.refl _ _).drew | exact HS0.out _ (below_on (s_below (by assumption)) (below_alloc1 _ _)))
        replace hHeld := hHeld2
        clear hK K hHeld2
        (try dsimp only at hHeld)
        (try simp only [List.setIfInBounds_toArray, List.set_cons_zero, List.set_cons_succ])
        refine wpAnyH_ready (rs := [23]) (by kernel_rfl) (by simp) ?_
        refine ready_at 23 ⟨_, rfl⟩ (fun o ho K hK => ?_) ?_
        · simp only [List.getElem?_toArray, List.getElem?_cons_succ, List.getElem?_cons_zero, Option.some.injEq] at ho
          subst ho
          go_simp
          (first
            | (go_at_call_of 35 gx; (try clear hS); refine (list_any _ gx nx _ (by omega)).mono ?_; rintro e wn ⟨rfl, hb⟩; have hS := below_on (s_below (by assumption)) hb; (first | have hR := Arr2.below (Arr2.new _ gx ux nx gy uy ny) hb | have hR := Arr2.below (Arr2.new _ gx ux nx gy uy ny).drew hb | replace hR := Arr2.below hR hb | skip); (first | have hQ := Arr1.below (Arr1.new _ gx ux nx) hb | replace hQ := Arr1.below hQ hb | skip); clear hb)
            | (go_at_call_of 35 gy; (try clear hS); refine (list_any _ gy ny _ (by omega)).mono ?_; rintro e wn ⟨rfl, hb⟩; have hS := below_on (s_below (by assumption)) hb; (first | have hR := Arr2.below (Arr2.new _ gx ux nx gy uy ny) hb | have hR := Arr2.below (Arr2.new _ gx ux nx gy uy ny).drew hb | replace hR := Arr2.below hR hb | skip); (first | have hQ := Arr1.below (Arr1.new _ gx ux nx) hb | replace hQ := Arr1.below hQ hb | skip); clear hb))
          refine hK.out _ _ ?_ (fun hHeld2 => ?_)
          · (try dsimp only)
            (first | assumption | exact HS0.out _ (by assumption) | exact HS0.out _ (Below.drew (by assumption)) | exact HS0.out _ (Below.refl _ _).drew | exact HS0.out _ (below_on (s_below (by assumption)) (below_alloc1 _ _)))
          replace hHeld := hHeld2
          clear hK K hHeld2
          (try dsimp only at hHeld)
          (try simp only [List.setIfInBounds_toArray, List.set_cons_zero, List.set_cons_succ])
          refine wpAnyH_ready (rs := [25]) (by kernel_rfl) (by simp) ?_
          refine ready_at 25 ⟨_, rfl⟩ (fun o ho K hK => ?_) ?_
          · simp only [List.getElem?_toArray, List.getElem?_cons_succ, List.getElem?_cons_zero, Option.some.injEq] at ho
            subst ho
            go_simp
            (first
              | (go_at_call_of 35 gx; (try clear hS); refine (list_any _ gx nx _ (by omega)).mono ?_; rintro e wn ⟨rfl, hb⟩; have hS := below_on (s_below (by assumption)) hb; (first | have hR := Arr2.below (Arr2.new _ gx ux nx gy uy ny) hb | have hR := Arr2.below (Arr2.new _ gx ux nx gy uy ny).drew hb | replace hR := Arr2.below hR hb | skip); (first | have hQ := Arr1.below (Arr1.new _ gx ux nx) hb | replace hQ := Arr1.below hQ hb | skip); clear hb)
              | (go_at_call_of 35 gy; (try clear hS); refine (list_any _ gy ny _ (by omega)).mono ?_; rintro e wn ⟨rfl, hb⟩; have hS := below_on (s_below (by assumption)) hb; (first | have hR := Arr2.below (Arr2.new _ gx ux nx gy uy ny) hb | have hR := Arr2.below (Arr2.new _ gx ux nx gy uy ny).drew hb | replace hR := Arr2.below hR hb | skip); (first | have hQ := Arr1.below (Arr1.new _ gx ux nx) hb | replace hQ := Arr1.below hQ hb | skip); clear hb))
            refine hK.out _ _ ?_ (fun hHeld2 => ?_)
            · (try dsimp only)
              (first | assumption | exact HS0.out _ (by assumption) | exact HS0.out _ (Below.drew (by assumption)) | exact HS0.out _ (Below.refl _ _).drew | exact HS0.out _ (below_on (s_below (by assumption)) (below_alloc1 _ _)))
            replace hHeld := hHeld2
            clear hK K hHeld2
            (try dsimp only at hHeld)
            (try simp only [List.setIfInBounds_toArray, List.set_cons_zero, List.set_cons_succ])
            refine wpAnyH_ready (rs := [26]) (by kernel_rfl) (by simp) ?_
            refine ready_at 26 ⟨_, rfl⟩ (fun o ho K hK => ?_) ?_
            · simp only [List.getElem?_toArray, List.getElem?_cons_succ, List.getElem?_cons_zero, Option.some.injEq] at ho
              subst ho
              go_simp
              (first
                | (go_at_call_of 56 gy; (try clear hS); refine (add_v (hx.below (s_below (by assumption))).val (hy.below (s_below (by assumption))).val (by omega)).mono ?_; rintro e w6 ⟨v6, rfl, ⟨g6, n6, c6, rfl, ho6, hn6⟩, hb⟩; have hz6 := size_on (s_below (by assumption)) hb; have hS := below_on (s_below (by assumption)) hb; (first | have hR := Arr2.below (Arr2.new _ gx ux nx gy uy ny) hb | have hR := Arr2.below (Arr2.new _ gx ux nx gy uy ny).drew hb | replace hR := Arr2.below hR hb | skip); (first | have hQ := Arr1.below (Arr1.new _ gx ux nx) hb | replace hQ := Arr1.below hQ hb | skip); clear hb)
                | (go_at_call 56; (try clear hS); refine (add_v (hx.below (s_below (by assumption))).val (hx.below (s_below (by assumption))).val (by omega)).mono ?_; rintro e w6 ⟨v6, rfl, ⟨g6, n6, c6, rfl, ho6, hn6⟩, hb⟩; have hz6 := size_on (s_below (by assumption)) hb; have hS := below_on (s_below (by assumption)) hb; (first | have hR := Arr2.below (Arr2.new _ gx ux nx gy uy ny) hb | have hR := Arr2.below (Arr2.new _ gx ux nx gy uy ny).drew hb | replace hR := Arr2.below hR hb | skip); (first | have hQ := Arr1.below (Arr1.new _ gx ux nx) hb | replace hQ := Arr1.below hQ hb | skip); clear hb))
              refine hK.out _ _ ?_ (fun hHeld2 => ?_)
              · (try dsimp only)
                (first | assumption | exact HS0.out _ (by assumption) | exact HS0.out _ (Below.drew (by assumption)) | exact HS0.out _ (Below.refl _ _).drew | exact HS0.out _ (below_on (s_below (by assumption)) (below_alloc1 _ _)))
              replace hHeld := hHeld2
              clear hK K hHeld2
              (try dsimp only at hHeld)
              (try simp only [List.setIfInBounds_toArray, List.set_cons_zero, List.set_cons_succ])
              refine wpAnyH_ready (rs := [29]) (by kernel_rfl) (by simp) ?_
              refine ready_at 29 ⟨_, rfl⟩ (fun o ho K hK => ?_) ?_
              · simp only [List.getElem?_toArray, List.getElem?_cons_succ, List.getElem?_cons_zero, Option.some.injEq] at ho
                subst ho
                go_simp
                (first
                  | (go_at_call_of 60 b; (try clear hS); refine (radd_v (h_a.below (s_below (by assumption))) (h_b.below (s_below (by assumption))) (by omega) (by omega)).mono ?_; rintro e w7 ⟨v7, rfl, ⟨A7, m7, d7, rfl, hs7, hn7⟩, hb⟩; have hS := below_on (s_below (by assumption)) hb; have hA7 : Below w6.heap.size w6 w7 := (by first | exact hb | exact below_on (below_alloc1 _ _) hb | exact below_on (below_drew1 _) hb | exact below_on (below_on (below_drew1 _) (below_alloc1 _ _)) hb); replace ho6 := ho6.below hA7; clear hA7; (first | have hR := Arr2.below (Arr2.new _ gx ux nx gy uy ny) hb | have hR := Arr2.below (Arr2.new _ gx ux nx gy uy ny).drew hb | replace hR := Arr2.below hR hb | skip); (first | have hQ := Arr1.below (Arr1.new _ gx ux nx) hb | replace hQ := Arr1.below hQ hb | skip); clear hb)
                  | (go_at_call 60; (try clear hS); refine (radd_v (h_a.below (s_below (by assumption))) (h_a.below (s_below (by assumption))) (by omega) (by omega)).mono ?_; rintro e w7 ⟨v7, rfl, ⟨A7, m7, d7, rfl, hs7, hn7⟩, hb⟩; have hS := below_on (s_below (by assumption)) hb; have hA7 : Below w6.heap.size w6 w7 := (by first | exact hb | exact below_on (below_alloc1 _ _) hb | exact below_on (below_drew1 _) hb | exact below_on (below_on (below_drew1 _) (below_alloc1 _ _)) hb); replace ho6 := ho6.below hA7; clear hA7; (first | have hR := Arr2.below (Arr2.new _ gx ux nx gy uy ny) hb | have hR := Arr2.below (Arr2.new _ gx ux nx gy uy ny).drew hb | replace hR := Arr2.below hR hb | skip); (first | have hQ := Arr1.below (Arr1.new _ gx ux nx) hb | replace hQ := Arr1.below hQ hb | skip); clear hb))
                refine hK.out _ _ ?_ (fun hHeld2 => ?_)
                · (try dsimp only)
                  (first | assumption | exact HS0.out _ (by assumption) | exact HS0.out _ (Below.drew (by assumption)) | exact HS0.out _ (Below.refl _ _).drew | exact HS0.out _ (below_on (s_below (by assumption)) (below_alloc1 _ _)))
                replace hHeld := hHeld2
                clear hK K hHeld2
                (try dsimp only at hHeld)
                (try simp only [List.setIfInBounds_toArray, List.set_cons_zero, List.set_cons_succ])
                refine wpAnyH_ready (rs := [32]) (by kernel_rfl) (by simp) ?_
                refine ready_at 32 ⟨_, rfl⟩ (fun o ho K hK => ?_) ?_
                · simp only [List.getElem?_toArray, List.getElem?_cons_succ, List.getElem?_cons_zero, Option.some.injEq] at ho
                  subst ho
                  go_simp
                  (first
                    | (go_at_call_of 38 (2 : Nat); (try clear hS); refine (is_two (by first | exact ho6 | exact ho6.below (below_alloc1 _ _)) (by first | exact hs7 | exact hs7.below (below_alloc1 _ _)) (by omega) (by first | exact Arr2.new _ gx ux nx gy uy ny | exact hR) (hx.below (s_below (by assumption))) (hy.below (s_below (by assumption))) (by omega) (by omega) (by have := ho6.base_le; omega) hlx hly (by omega)).mono ?_; rintro e wn ⟨rfl, hg⟩; have hS := below_gb (s_below (by assumption)) hg (by have := ho6.base_le; omega); clear hg ho6 hs7 hz6; (try clear hR); (try clear hQ))
                    | (go_at_call_of 38 (1 : Nat); (try clear hS); refine (is_one (by first | exact ho6 | exact ho6.below (below_alloc1 _ _)) (by first | exact hs7 | exact hs7.below (below_alloc1 _ _)) (by omega) (by first | exact Arr1.new _ gx ux nx | exact hQ) (hx.below (s_below (by assumption))) (by omega) (by have := ho6.base_le; omega) hlx (by omega)).mono ?_; rintro e wn ⟨rfl, hg⟩; have hS := below_gb (s_below (by assumption)) hg (by have := ho6.base_le; omega); clear hg ho6 hs7 hz6; (try clear hR); (try clear hQ)))
                  refine hK.out _ _ ?_ (fun hHeld2 => ?_)
                  · (try dsimp only)
                    (first | assumption | exact HS0.out _ (by assumption) | exact HS0.out _ (Below.drew (by assumption)) | exact HS0.out _ (Below.refl _ _).drew | exact HS0.out _ (below_on (s_below (by assumption)) (below_alloc1 _ _)))
                  replace hHeld := hHeld2
                  clear hK K hHeld2
                  (try dsimp only at hHeld)
                  (try simp only [List.setIfInBounds_toArray, List.set_cons_zero, List.set_cons_succ])
                  refine take_at 33 (by kernel_rfl) (by kernel_rfl) (by kernel_rfl) (fun _ _ _ _ _ h => h) ⟨_, rfl⟩ (by assumption) (fun o ho => ?_)
                  simp only [List.getElem?_toArray, List.getElem?_cons_succ, List.getElem?_cons_zero, Option.some.injEq] at ho
                  subst ho
                  refine ⟨?_, ⟨by rfl, ?_⟩, ?_⟩
                  rotate_left
                  · intro w hSw
                    (try dsimp only at hSw)
                    (go_simp; try with_reducible rfl)
                  (try simp only [Act.put, List.setIfInBounds_toArray, List.set_cons_zero, List.set_cons_succ])
                  exact REST2 _ _ rfl hHeld
                exact AllReadyH.nil
              exact AllReadyH.nil
            exact AllReadyH.nil
          exact AllReadyH.nil
        exact AllReadyH.nil
      exact AllReadyH.nil
    refine take_at 0 (by kernel_rfl) (by kernel_rfl) (by kernel_rfl) (fun _ _ _ _ _ h => h) ⟨_, rfl⟩ (by assumption) (fun o ho => ?_)
    simp only [List.getElem?_toArray, List.getElem?_cons_zero, Option.some.injEq] at ho
    subst ho
    refine ⟨?_, ⟨by rfl, ?_⟩, ?_⟩
    rotate_left
    · intro w hSw
      (try dsimp only at hSw)
      (go_simp; try with_reducible rfl)
    (try simp only [Act.put, List.setIfInBounds_toArray, List.set_cons_zero, List.set_cons_succ])
    refine take_at 2 (by kernel_rfl) (by kernel_rfl) (by kernel_rfl) (fun _ _ _ _ _ h => h) ⟨_, rfl⟩ (by assumption) (fun o ho => ?_)
    simp only [List.getElem?_toArray, List.getElem?_cons_succ, List.getElem?_cons_zero, Option.some.injEq] at ho
    subst ho
    refine ⟨?_, ⟨by rfl, ?_⟩, ?_⟩
    rotate_left
    · intro w hSw
      (try dsimp only at hSw)
      (go_simp; try with_reducible rfl)
    (try simp only [Act.put, List.setIfInBounds_toArray, List.set_cons_zero, List.set_cons_succ])
    refine take_at 5 (by kernel_rfl) (by kernel_rfl) (by kernel_rfl) (fun _ _ _ _ _ h => h) ⟨_, rfl⟩ (by assumption) (fun o ho => ?_)
    simp only [List.getElem?_toArray, List.getElem?_cons_succ, List.getElem?_cons_zero, Option.some.injEq] at ho
    subst ho
    refine ⟨?_, ⟨by rfl, ?_⟩, ?_⟩
    rotate_left
    · intro w hSw
      (try dsimp only at hSw)
      (go_simp; try with_reducible rfl)
    (try simp only [Act.put, List.setIfInBounds_toArray, List.set_cons_zero, List.set_cons_succ])
    refine wpAnyH_ready (rs := [1]) (by kernel_rfl) (by simp) ?_
    refine ready_at 1 ⟨_, rfl⟩ (fun o ho K hK => ?_) ?_
    · simp only [List.getElem?_toArray, List.getElem?_cons_succ, List.getElem?_cons_zero, Option.some.injEq] at ho
      subst ho
      go_simp
      (first
        | (go_at_call_of 35 gx; (try clear hS); refine (list_any _ gx nx _ (by omega)).mono ?_; rintro e wn ⟨rfl, hb⟩; have hS := below_on (s_below (by assumption)) hb; (first | have hR := Arr2.below (Arr2.new _ gx ux nx gy uy ny) hb | have hR := Arr2.below (Arr2.new _ gx ux nx gy uy ny).drew hb | replace hR := Arr2.below hR hb | skip); (first | have hQ := Arr1.below (Arr1.new _ gx ux nx) hb | replace hQ := Arr1.below hQ hb | skip); clear hb)
        | (go_at_call_of 35 gy; (try clear hS); refine (list_any _ gy ny _ (by omega)).mono ?_; rintro e wn ⟨rfl, hb⟩; have hS := below_on (s_below (by assumption)) hb; (first | have hR := Arr2.below (Arr2.new _ gx ux nx gy uy ny) hb | have hR := Arr2.below (Arr2.new _ gx ux nx gy uy ny).drew hb | replace hR := Arr2.below hR hb | skip); (first | have hQ := Arr1.below (Arr1.new _ gx ux nx) hb | replace hQ := Arr1.below hQ hb | skip); clear hb))
      refine hK.out _ _ ?_ (fun hHeld2 => ?_)
      · (try dsimp only)
        (first | assumption | exact HS0.out _ (by assumption) | exact HS0.out _ (Below.drew (by assumption)) | exact HS0.out _ (Below.refl _ _).drew | exact HS0.out _ (below_on (s_below (by assumption)) (below_alloc1 _ _)))
      replace hHeld := hHeld2
      clear hK K hHeld2
      (try dsimp only at hHeld)
      (try simp only [List.setIfInBounds_toArray, List.set_cons_zero, List.set_cons_succ])
      refine wpAnyH_ready (rs := [3]) (by kernel_rfl) (by simp) ?_
      refine ready_at 3 ⟨_, rfl⟩ (fun o ho K hK => ?_) ?_
      · simp only [List.getElem?_toArray, List.getElem?_cons_succ, List.getElem?_cons_zero, Option.some.injEq] at ho
        subst ho
        go_simp
        (first
          | (go_at_call_of 35 gx; (try clear hS); refine (list_any _ gx nx _ (by omega)).mono ?_; rintro e wn ⟨rfl, hb⟩; have hS := below_on (s_below (by assumption)) hb; (first | have hR := Arr2.below (Arr2.new _ gx ux nx gy uy ny) hb | have hR := Arr2.below (Arr2.new _ gx ux nx gy uy ny).drew hb | replace hR := Arr2.below hR hb | skip); (first | have hQ := Arr1.below (Arr1.new _ gx ux nx) hb | replace hQ := Arr1.below hQ hb | skip); clear hb)
          | (go_at_call_of 35 gy; (try clear hS); refine (list_any _ gy ny _ (by omega)).mono ?_; rintro e wn ⟨rfl, hb⟩; have hS := below_on (s_below (by assumption)) hb; (first | have hR := Arr2.below (Arr2.new _ gx ux nx gy uy ny) hb | have hR := Arr2.below (Arr2.new _ gx ux nx gy uy ny).drew hb | replace hR := Arr2.below hR hb | skip); (first | have hQ := Arr1.below (Arr1.new _ gx ux nx) hb | replace hQ := Arr1.below hQ hb | skip); clear hb))
        refine hK.out _ _ ?_ (fun hHeld2 => ?_)
        · (try dsimp only)
          (first | assumption | exact HS0.out _ (by assumption) | exact HS0.out _ (Below.drew (by assumption)) | exact HS0.out _ (Below.refl _ _).drew | exact HS0.out _ (below_on (s_below (by assumption)) (below_alloc1 _ _)))
        replace hHeld := hHeld2
        clear hK K hHeld2
        (try dsimp only at hHeld)
        (try simp only [List.setIfInBounds_toArray, List.set_cons_zero, List.set_cons_succ])
        refine wpAnyH_ready (rs := [4]) (by kernel_rfl) (by simp) ?_
        refine ready_at 4 ⟨_, rfl⟩ (fun o ho K hK => ?_) ?_
        · simp only [List.getElem?_toArray, List.getElem?_cons_succ, List.getElem?_cons_zero, Option.some.injEq] at ho
          subst ho
          go_simp
          (go_at_call 44; (try clear hS); refine (cmp_v (hx.below (s_below (by assumption))).val (hy.below (s_below (by assumption))).val (by omega) (by omega)).mono ?_; rintro e wn ⟨rfl, hb⟩; rw [HC.out]; have hS := below_on (s_below (by assumption)) hb; (first | have hR := Arr2.below (Arr2.new _ gx ux nx gy uy ny) hb | have hR := Arr2.below (Arr2.new _ gx ux nx gy uy ny).drew hb | replace hR := Arr2.below hR hb | skip); (first | have hQ := Arr1.below (Arr1.new _ gx ux nx) hb | replace hQ := Arr1.below hQ hb | skip); clear hb)
          refine hK.out _ _ ?_ (fun hHeld2 => ?_)
          · (try dsimp only)
            (first | assumption | exact HS0.out _ (by assumption) | exact HS0.out _ (Below.drew (by assumption)) | exact HS0.out _ (Below.refl _ _).drew | exact HS0.out _ (below_on (s_below (by assumption)) (below_alloc1 _ _)))
          replace hHeld := hHeld2
          clear hK K hHeld2
          (try dsimp only at hHeld)
          (try simp only [List.setIfInBounds_toArray, List.set_cons_zero, List.set_cons_succ])
          refine take_at 6 (by kernel_rfl) (by kernel_rfl) (by kernel_rfl) (fun _ _ _ _ _ h => h) ⟨_, rfl⟩ (by assumption) (fun o ho => ?_)
          simp only [List.getElem?_toArray, List.getElem?_cons_succ, List.getElem?_cons_zero, Option.some.injEq] at ho
          subst ho
          refine ⟨?_, ⟨by rfl, ?_⟩, ?_⟩
          rotate_left
          · intro w hSw
            (try dsimp only at hSw)
            (go_simp; try with_reducible rfl)
          (try simp only [Act.put, List.setIfInBounds_toArray, List.set_cons_zero, List.set_cons_succ])
          refine take_at 7 (by kernel_rfl) (by kernel_rfl) (by kernel_rfl) (fun _ _ _ _ _ h => h) ⟨_, rfl⟩ (by assumption) (fun o ho => ?_)
          simp only [List.getElem?_toArray, List.getElem?_cons_succ, List.getElem?_cons_zero, Option.some.injEq] at ho
          subst ho
          refine ⟨?_, ⟨by rfl, ?_⟩, ?_⟩
          rotate_left
          · intro w hSw
            (try dsimp only at hSw)
            (go_simp; try with_reducible rfl)
          (try simp only [Act.put, List.setIfInBounds_toArray, List.set_cons_zero, List.set_cons_succ])
          refine take_at 8 (by kernel_rfl) (by kernel_rfl) (by kernel_rfl) (fun _ _ _ _ _ h => h) ⟨_, rfl⟩ (by assumption) (fun o ho => ?_)
          simp only [List.getElem?_toArray, List.getElem?_cons_succ, List.getElem?_cons_zero, Option.some.injEq] at ho
          subst ho
          refine ⟨?_, ⟨by rfl, ?_⟩, ?_⟩
          rotate_left
          · intro w hSw
            (try dsimp only at hSw)
            (go_simp; try with_reducible rfl)
          (try simp only [Act.put, List.setIfInBounds_toArray, List.set_cons_zero, List.set_cons_succ])
          refine take_at 10 (by kernel_rfl) (by kernel_rfl) (by kernel_rfl) (fun _ _ _ _ _ h => h) ⟨_, rfl⟩ (by assumption) (fun o ho => ?_)
          simp only [List.getElem?_toArray, List.getElem?_cons_succ, List.getElem?_cons_zero, Option.some.injEq] at ho
          subst ho
          refine ⟨?_, ⟨by rfl, ?_⟩, ?_⟩
          rotate_left
          · intro w hSw
            (try dsimp only at hSw)
            (go_simp; try with_reducible rfl)
          (try simp only [Act.put, List.setIfInBounds_toArray, List.set_cons_zero, List.set_cons_succ])
          refine take_at 13 (by kernel_rfl) (by kernel_rfl) (by kernel_rfl) (fun _ _ _ _ _ h => h) ⟨_, rfl⟩ (by assumption) (fun o ho => ?_)
          simp only [List.getElem?_toArray, List.getElem?_cons_succ, List.getElem?_cons_zero, Option.some.injEq] at ho
          subst ho
          refine ⟨?_, ⟨by rfl, ?_⟩, ?_⟩
          rotate_left
          · intro w hSw
            (try dsimp only at hSw)
            (go_simp; try with_reducible rfl)
          (try simp only [Act.put, List.setIfInBounds_toArray, List.set_cons_zero, List.set_cons_succ])
          refine take_at 14 (by kernel_rfl) (by kernel_rfl) (by kernel_rfl) (fun _ _ _ _ _ h => h) ⟨_, rfl⟩ (by assumption) (fun o ho => ?_)
          simp only [List.getElem?_toArray, List.getElem?_cons_succ, List.getElem?_cons_zero, Option.some.injEq] at ho
          subst ho
          refine ⟨?_, ⟨by rfl, ?_⟩, ?_⟩
          rotate_left
          · intro w hSw
            (try dsimp only at hSw)
            (go_simp; try with_reducible rfl)
          (try simp only [Act.put, List.setIfInBounds_toArray, List.set_cons_zero, List.set_cons_succ])
          refine take_at 16 (by kernel_rfl) (by kernel_rfl) (by kernel_rfl) (fun _ _ _ _ _ h => h) ⟨_, rfl⟩ (by assumption) (fun o ho => ?_)
          simp only [List.getElem?_toArray, List.getElem?_cons_succ, List.getElem?_cons_zero, Option.some.injEq] at ho
          subst ho
          refine ⟨?_, ⟨by rfl, ?_⟩, ?_⟩
          rotate_left
          · intro w hSw
            (try dsimp only at hSw)
            (go_simp; try with_reducible rfl)
          (try simp only [Act.put, List.setIfInBounds_toArray, List.set_cons_zero, List.set_cons_succ])
          refine take_at 17 (by kernel_rfl) (by kernel_rfl) (by kernel_rfl) (fun _ _ _ _ _ h => h) ⟨_, rfl⟩ (by assumption) (fun o ho => ?_)
          simp only [List.getElem?_toArray, List.getElem?_cons_succ, List.getElem?_cons_zero, Option.some.injEq] at ho
          subst ho
          refine ⟨?_, ⟨by rfl, ?_⟩, ?_⟩
          rotate_left
          · intro w hSw
            (try dsimp only at hSw)
            (go_simp; try with_reducible rfl)
          (try simp only [Act.put, List.setIfInBounds_toArray, List.set_cons_zero, List.set_cons_succ])
          refine wpAnyH_ready (rs := [9, 18]) (by kernel_rfl) (by simp) ?_
          refine ready_at 9 ⟨_, rfl⟩ (fun o ho K hK => ?_) ?_
          · simp only [List.getElem?_toArray, List.getElem?_cons_succ, List.getElem?_cons_zero, Option.some.injEq] at ho
            subst ho
            go_simp
            (first
              | (go_at_call_of 35 gx; (try clear hS); refine (list_any _ gx nx _ (by omega)).mono ?_; rintro e wn ⟨rfl, hb⟩; have hS := below_on (s_below (by assumption)) hb; (first | have hR := Arr2.below (Arr2.new _ gx ux nx gy uy ny) hb | have hR := Arr2.below (Arr2.new _ gx ux nx gy uy ny).drew hb | replace hR := Arr2.below hR hb | skip); (first | have hQ := Arr1.below (Arr1.new _ gx ux nx) hb | replace hQ := Arr1.below hQ hb | skip); clear hb)
              | (go_at_call_of 35 gy; (try clear hS); refine (list_any _ gy ny _ (by omega)).mono ?_; rintro e wn ⟨rfl, hb⟩; have hS := below_on (s_below (by assumption)) hb; (first | have hR := Arr2.below (Arr2.new _ gx ux nx gy uy ny) hb | have hR := Arr2.below (Arr2.new _ gx ux nx gy uy ny).drew hb | replace hR := Arr2.below hR hb | skip); (first | have hQ := Arr1.below (Arr1.new _ gx ux nx) hb | replace hQ := Arr1.below hQ hb | skip); clear hb))
            refine hK.out _ _ ?_ (fun hHeld2 => ?_)
            · (try dsimp only)
              (first | assumption | exact HS0.out _ (by assumption) | exact HS0.out _ (Below.drew (by assumption)) | exact HS0.out _ (Below.refl _ _).drew | exact HS0.out _ (below_on (s_below (by assumption)) (below_alloc1 _ _)))
            replace hHeld := hHeld2
            clear hK K hHeld2
            (try dsimp only at hHeld)
            (try simp only [List.setIfInBounds_toArray, List.set_cons_zero, List.set_cons_succ])
            refine wpAnyH_ready (rs := [11, 18]) (by kernel_rfl) (by simp) ?_
            refine ready_at 11 ⟨_, rfl⟩ (fun o ho K hK => ?_) ?_
            · simp only [List.getElem?_toArray, List.getElem?_cons_succ, List.getElem?_cons_zero, Option.some.injEq] at ho
              subst ho
              go_simp
              (first
                | (go_at_call_of 35 gx; (try clear hS); refine (list_any _ gx nx _ (by omega)).mono ?_; rintro e wn ⟨rfl, hb⟩; have hS := below_on (s_below (by assumption)) hb; (first | have hR := Arr2.below (Arr2.new _ gx ux nx gy uy ny) hb | have hR := Arr2.below (Arr2.new _ gx ux nx gy uy ny).drew hb | replace hR := Arr2.below hR hb | skip); (first | have hQ := Arr1.below (Arr1.new _ gx ux nx) hb | replace hQ := Arr1.below hQ hb | skip); clear hb)
                | (go_at_call_of 35 gy; (try clear hS); refine (list_any _ gy ny _ (by omega)).mono ?_; rintro e wn ⟨rfl, hb⟩; have hS := below_on (s_below (by assumption)) hb; (first | have hR := Arr2.below (Arr2.new _ gx ux nx gy uy ny) hb | have hR := Arr2.below (Arr2.new _ gx ux nx gy uy ny).drew hb | replace hR := Arr2.below hR hb | skip); (first | have hQ := Arr1.below (Arr1.new _ gx ux nx) hb | replace hQ := Arr1.below hQ hb | skip); clear hb))
              refine hK.out _ _ ?_ (fun hHeld2 => ?_)
              · (try dsimp only)
                (first | assumption | exact HS0.out _ (by assumption) | exact HS0.out _ (Below.drew (by assumption)) | exact HS0.out _ (Below.refl _ _).drew | exact HS0.out _ (below_on (s_below (by assumption)) (below_alloc1 _ _)))
              replace hHeld := hHeld2
              clear hK K hHeld2
              (try dsimp only at hHeld)
              (try simp only [List.setIfInBounds_toArray, List.set_cons_zero, List.set_cons_succ])
              refine wpAnyH_ready (rs := [12, 18]) (by kernel_rfl) (by simp) ?_
              refine ready_at 12 ⟨_, rfl⟩ (fun o ho K hK => ?_) ?_
              · simp only [List.getElem?_toArray, List.getElem?_cons_succ, List.getElem?_cons_zero, Option.some.injEq] at ho
                subst ho
                go_simp
                (first
                  | (go_at_call_of 56 gy; (try clear hS); refine (add_v (hx.below (s_below (by assumption))).val (hy.below (s_below (by assumption))).val (by omega)).mono ?_; rintro e w6 ⟨v6, rfl, ⟨g6, n6, c6, rfl, ho6, hn6⟩, hb⟩; have hz6 := size_on (s_below (by assumption)) hb; have hS := below_on (s_below (by assumption)) hb; (first | have hR := Arr2.below (Arr2.new _ gx ux nx gy uy ny) hb | have hR := Arr2.below (Arr2.new _ gx ux nx gy uy ny).drew hb | replace hR := Arr2.below hR hb | skip); (first | have hQ := Arr1.below (Arr1.new _ gx ux nx) hb | replace hQ := Arr1.below hQ hb | skip); clear hb)
                  | (go_at_call 56; (try clear hS); refine (add_v (hx.below (s_below (by assumption))).val (hx.below (s_below (by assumption))).val (by omega)).mono ?_; rintro e w6 ⟨v6, rfl, ⟨g6, n6, c6, rfl, ho6, hn6⟩, hb⟩; have hz6 := size_on (s_below (by assumption)) hb; have hS := below_on (s_below (by assumption)) hb; (first | have hR := Arr2.below (Arr2.new _ gx ux nx gy uy ny) hb | have hR := Arr2.below (Arr2.new _ gx ux nx gy uy ny).drew hb | replace hR := Arr2.below hR hb | skip); (first | have hQ := Arr1.below (Arr1.new _ gx ux nx) hb | replace hQ := Arr1.below hQ hb | skip); clear hb))
                refine hK.out _ _ ?_ (fun hHeld2 => ?_)
                · (try dsimp only)
                  (first | assumption | exact HS0.out _ (by assumption) | exact HS0.out _ (Below.drew (by assumption)) | exact HS0.out _ (Below.refl _ _).drew | exact HS0.out _ (below_on (s_below (by assumption)) (below_alloc1 _ _)))
                replace hHeld := hHeld2
                clear hK K hHeld2
                (try dsimp only at hHeld)
                (try simp only [List.setIfInBounds_toArray, List.set_cons_zero, List.set_cons_succ])
                refine wpAnyH_ready (rs := [15, 18]) (by kernel_rfl) (by simp) ?_
                refine ready_at 15 ⟨_, rfl⟩ (fun o ho K hK => ?_) ?_
                · simp only [List.getElem?_toArray, List.getElem?_cons_succ, List.getElem?_cons_zero, Option.some.injEq] at ho
                  subst ho
                  go_simp
                  (first
                    | (go_at_call_of 60 b; (try clear hS); refine (radd_v (h_a.below (s_below (by assumption))) (h_b.below (s_below (by assumption))) (by omega) (by omega)).mono ?_; rintro e w7 ⟨v7, rfl, ⟨A7, m7, d7, rfl, hs7, hn7⟩, hb⟩; have hS := below_on (s_below (by assumption)) hb; have hA7 : Below w6.heap.size w6 w7 := (by first | exact hb | exact below_on (below_alloc1 _ _) hb | exact below_on (below_drew1 _) hb | exact below_on (below_on (below_drew1 _) (below_alloc1 _ _)) hb); replace ho6 := ho6.below hA7; clear hA7; (first | have hR := Arr2.below (Arr2.new _ gx ux nx gy uy ny) hb | have hR := Arr2.below (Arr2.new _ gx ux nx gy uy ny).drew hb | replace hR := Arr2.below hR hb | skip); (first | have hQ := Arr1.below (Arr1.new _ gx ux nx) hb | replace hQ := Arr1.below hQ hb | skip); clear hb)
                    | (go_at_call 60; (try clear hS); refine (radd_v (h_a.below (s_below (by assumption))) (h_a.below (s_below (by assumption))) (by omega) (by omega)).mono ?_; rintro e w7 ⟨v7, rfl, ⟨A7, m7, d7, rfl, hs7, hn7⟩, hb⟩; have hS := below_on (s_below (by assumption)) hb; have hA7 : Below w6.heap.size w6 w7 := (by first | exact hb | exact below_on (below_alloc1 _ _) hb | exact below_on (below_drew1 _) hb | exact below_on (below_on (below_drew1 _) (below_alloc1 _ _)) hb); replace ho6 := ho6.below hA7; clear hA7; (first | have hR := Arr2.below (Arr2.new _ gx ux nx gy uy ny) hb | have hR := Arr2.below (Arr2.new _ gx ux nx gy uy ny).drew hb | replace hR := Arr2.below hR hb | skip); (first | have hQ := Arr1.below (Arr1.new _ gx ux nx) hb | replace hQ := Arr1.below hQ hb | skip); clear hb))
                  refine hK.out _ _ ?_ (fun hHeld2 => ?_)
                  · (try dsimp only)
                    (first | assumption | exact HS0.out _ (by assumption) | exact HS0.out _ (Below.drew (by assumption)) | exact HS0.out _ (Below.refl _ _).drew | exact HS0.out _ (below_on (s_below (by assumption)) (below_alloc1 _ _)))
                  replace hHeld := hHeld2
                  clear hK K hHeld2
                  (try dsimp only at hHeld)
                  (try simp only [List.setIfInBounds_toArray, List.set_cons_zero, List.set_cons_succ])
                  refine wpAnyH_ready (rs := [18]) (by kernel_rfl) (by simp) ?_
                  refine ready_at 18 ⟨_, rfl⟩ (fun o ho K hK => ?_) ?_
                  · simp only [List.getElem?_toArray, List.getElem?_cons_succ, List.getElem?_cons_zero, Option.some.injEq] at ho
                    subst ho
                    go_simp
                    refine hK.out _ _ ?_ (fun hHeld2 => ?_)
                    · (try dsimp only)
                      (first | assumption | exact HS0.out _ (by assumption) | exact HS0.out _ (Below.drew (by assumption)) | exact HS0.out _ (Below.refl _ _).drew | exact HS0.out _ (below_on (s_below (by assumption)) (below_alloc1 _ _)))
                    replace hHeld := hHeld2
                    clear hK K hHeld2
                    (try dsimp only at hHeld)
                    (try simp only [List.setIfInBounds_toArray, List.set_cons_zero, List.set_cons_succ])
                    refine wpAnyH_ready (rs := [19]) (by kernel_rfl) (by simp) ?_
                    refine ready_at 19 ⟨_, rfl⟩ (fun o ho K hK => ?_) ?_
                    · simp only [List.getElem?_toArray, List.getElem?_cons_succ, List.getElem?_cons_zero, Option.some.injEq] at ho
                      subst ho
                      go_simp
                      (first
                        | (go_at_call_of 38 (2 : Nat); (try clear hS); refine (is_two (by first | exact ho6 | exact ho6.below (below_alloc1 _ _)) (by first | exact hs7 | exact hs7.below (below_alloc1 _ _)) (by omega) (by first | exact Arr2.new _ gx ux nx gy uy ny | exact hR) (hx.below (s_below (by assumption))) (hy.below (s_below (by assumption))) (by omega) (by omega) (by have := ho6.base_le; omega) hlx hly (by omega)).mono ?_; rintro e wn ⟨rfl, hg⟩; have hS := below_gb (s_below (by assumption)) hg (by have := ho6.base_le; omega); clear hg ho6 hs7 hz6; (try clear hR); (try clear hQ))
                        | (go_at_call_of 38 (1 : Nat); (try clear hS); refine (is_one (by first | exact ho6 | exact ho6.below (below_alloc1 _ _)) (by first | exact hs7 | exact hs7.below (below_alloc1 _ _)) (by omega) (by first | exact Arr1.new _ gx ux nx | exact hQ) (hx.below (s_below (by assumption))) (by omega) (by have := ho6.base_le; omega) hlx (by omega)).mono ?_; rintro e wn ⟨rfl, hg⟩; have hS := below_gb (s_below (by assumption)) hg (by have := ho6.base_le; omega); clear hg ho6 hs7 hz6; (try clear hR); (try clear hQ)))
                      refine hK.out _ _ ?_ (fun hHeld2 => ?_)
                      · (try dsimp only)
                        (first | assumption | exact HS0.out _ (by assumption) | exact HS0.out _ (Below.drew (by assumption)) | exact HS0.out _ (Below.refl _ _).drew | exact HS0.out _ (below_on (s_below (by assumption)) (below_alloc1 _ _)))
                      replace hHeld := hHeld2
                      clear hK K hHeld2
                      (try dsimp only at hHeld)
                      (try simp only [List.setIfInBounds_toArray, List.set_cons_zero, List.set_cons_succ])
                      refine take_at 20 (by kernel_rfl) (by kernel_rfl) (by kernel_rfl) (fun _ _ _ _ _ h => h) ⟨_, rfl⟩ (by assumption) (fun o ho => ?_)
                      simp only [List.getElem?_toArray, List.getElem?_cons_succ, List.getElem?_cons_zero, Option.some.injEq] at ho
                      subst ho
                      refine ⟨?_, ⟨by rfl, ?_⟩, ?_⟩
                      rotate_left
                      · intro w hSw
                        (try dsimp only at hSw)
                        (go_simp; try with_reducible rfl)
                      (try simp only [Act.put, List.setIfInBounds_toArray, List.set_cons_zero, List.set_cons_succ])
                      exact REST1 _ _ rfl hHeld
                    exact AllReadyH.nil
                  exact AllReadyH.nil
                refine ready_at 18 ⟨_, rfl⟩ (fun o ho K hK => ?_) ?_
                · simp only [List.getElem?_toArray, List.getElem?_cons_succ, List.getElem?_cons_zero, Option.some.injEq] at ho
                  subst ho
                  go_simp
                  refine hK.out _ _ ?_ (fun hHeld2 => ?_)
                  · (try dsimp only)
                    (first | assumption | exact HS0.out _ (by assumption) | exact HS0.out _ (Below.drew (by assumption)) | exact HS0.out _ (Below.refl _ _).drew | exact HS0.out _ (below_on (s_below (by assumption)) (below_alloc1 _ _)))
                  replace hHeld := hHeld2
                  clear hK K hHeld2
                  (try dsimp only at hHeld)
                  (try simp only [List.setIfInBounds_toArray, List.set_cons_zero, List.set_cons_succ])
                  refine wpAnyH_ready (rs := [15]) (by kernel_rfl) (by simp) ?_
                  refine ready_at 15 ⟨_, rfl⟩ (fun o ho K hK => ?_) ?_
                  · simp only [List.getElem?_toArray, List.getElem?_cons_succ, List.getElem?_cons_zero, Option.some.injEq] at ho
                    subst ho
                    go_simp
                    (first
                      | (go_at_call_of 60 b; (try clear hS); refine (radd_v (h_a.below (s_below (by assumption))) (h_b.below (s_below (by assumption))) (by omega) (by omega)).mono ?_; rintro e w7 ⟨v7, rfl, ⟨A7, m7, d7, rfl, hs7, hn7⟩, hb⟩; have hS := below_on (s_below (by assumption)) hb; have hA7 : Below w6.heap.size w6 w7 := (by first | exact hb | exact below_on (below_alloc1 _ _) hb | exact below_on (below_drew1 _) hb | exact below_on (below_on (below_drew1 _) (below_alloc1 _ _)) hb); replace ho6 := ho6.below hA7; clear hA7; (first | have hR := Arr2.below (Arr2.new _ gx ux nx gy uy ny) hb | have hR := Arr2.below (Arr2.new _ gx ux nx gy uy ny).drew hb | replace hR := Arr2.below hR hb | skip); (first | have hQ := Arr1.below (Arr1.new _ gx ux nx) hb | replace hQ := Arr1.below hQ hb | skip); clear hb)
                      | (go_at_call 60; (try clear hS); refine (radd_v (h_a.below (s_below (by assumption))) (h_a.below (s_below (by assumption))) (by omega) (by omega)).mono ?_; rintro e w7 ⟨v7, rfl, ⟨A7, m7, d7, rfl, hs7, hn7⟩, hb⟩; have hS := below_on (s_below (by assumption)) hb; have hA7 : Below w6.heap.size w6 w7 := (by first | exact hb | exact below_on (below_alloc1 _ _) hb | exact below_on (below_drew1 _) hb | exact below_on (below_on (below_drew1 _) (below_alloc1 _ _)) hb); replace ho6 := ho6.below hA7; clear hA7; (first | have hR := Arr2.below (Arr2.new _ gx ux nx gy uy ny) hb | have hR := Arr2.below (Arr2.new _ gx ux nx gy uy ny).drew hb | replace hR := Arr2.below hR hb | skip); (first | have hQ := Arr1.below (Arr1.new _ gx ux nx) hb | replace hQ := Arr1.below hQ hb | skip); clear hb))
                    refine hK.out _ _ ?_ (fun hHeld2 => ?_)
                    · (try dsimp only)
                      (first | assumption | exact HS0.out _ (by assumption) | exact HS0.out _ (Below.drew (by assumption)) | exact HS0.out _ (Below.refl _ _).drew | exact HS0.out _ (below_on (s_below (by assumption)) (below_alloc1 _ _)))
                    replace hHeld := hHeld2
                    clear hK K hHeld2
                    (try dsimp only at hHeld)
                    (try simp only [List.setIfInBounds_toArray, List.set_cons_zero, List.set_cons_succ])
                    refine wpAnyH_ready (rs := [19]) (by kernel_rfl) (by simp) ?_
                    refine ready_at 19 ⟨_, rfl⟩ (fun o ho K hK => ?_) ?_
                    · simp only [List.getElem?_toArray, List.getElem?_cons_succ, List.getElem?_cons_zero, Option.some.injEq] at ho
                      subst ho
                      go_simp
                      (first
                        | (go_at_call_of 38 (2 : Nat); (try clear hS); refine (is_two (by first | exact ho6 | exact ho6.below (below_alloc1 _ _)) (by first | exact hs7 | exact hs7.below (below_alloc1 _ _)) (by omega) (by first | exact Arr2.new _ gx ux nx gy uy ny | exact hR) (hx.below (s_below (by assumption))) (hy.below (s_below (by assumption))) (by omega) (by omega) (by have := ho6.base_le; omega) hlx hly (by omega)).mono ?_; rintro e wn ⟨rfl, hg⟩; have hS := below_gb (s_below (by assumption)) hg (by have := ho6.base_le; omega); clear hg ho6 hs7 hz6; (try clear hR); (try clear hQ))
                        | (go_at_call_of 38 (1 : Nat); (try clear hS); refine (is_one (by first | exact ho6 | exact ho6.below (below_alloc1 _ _)) (by first | exact hs7 | exact hs7.below (below_alloc1 _ _)) (by omega) (by first | exact Arr1.new _ gx ux nx | exact hQ) (hx.below (s_below (by assumption))) (by omega) (by have := ho6.base_le; omega) hlx (by omega)).mono ?_; rintro e wn ⟨rfl, hg⟩; have hS := below_gb (s_below (by assumption)) hg (by have := ho6.base_le; omega); clear hg ho6 hs7 hz6; (try clear hR); (try clear hQ)))
                      refine hK.out _ _ ?_ (fun hHeld2 => ?_)
                      · (try dsimp only)
                        (first | assumption | exact HS0.out _ (by assumption) | exact HS0.out _ (Below.drew (by assumption)) | exact HS0.out _ (Below.refl _ _).drew | exact HS0.out _ (below_on (s_below (by assumption)) (below_alloc1 _ _)))
                      replace hHeld := hHeld2
                      clear hK K hHeld2
                      (try dsimp only at hHeld)
                      (try simp only [List.setIfInBounds_toArray, List.set_cons_zero, List.set_cons_succ])
                      refine take_at 20 (by kernel_rfl) (by kernel_rfl) (by kernel_rfl) (fun _ _ _ _ _ h => h) ⟨_, rfl⟩ (by assumption) (fun o ho => ?_)
                      simp only [List.getElem?_toArray, List.getElem?_cons_succ, List.getElem?_cons_zero, Option.some.injEq] at ho
                      subst ho
                      refine ⟨?_, ⟨by rfl, ?_⟩, ?_⟩
                      rotate_left
                      · intro w hSw
                        (try dsimp only at hSw)
                        (go_simp; try with_reducible rfl)
                      (try simp only [Act.put, List.setIfInBounds_toArray, List.set_cons_zero, List.set_cons_succ])
                      exact REST1 _ _ rfl hHeld
                    exact AllReadyH.nil
                  exact AllReadyH.nil
                exact AllReadyH.nil
              refine ready_at 18 ⟨_, rfl⟩ (fun o ho K hK => ?_) ?_
              · simp only [List.getElem?_toArray, List.getElem?_cons_succ, List.getElem?_cons_zero, Option.some.injEq] at ho
                subst ho
                go_simp
                refine hK.out _ _ ?_ (fun hHeld2 => ?_)
                · (try dsimp only)
                  (first | assumption | exact HS0.out _ (by assumption) | exact HS0.out _ (Below.drew (by assumption)) | exact HS0.out _ (Below.refl _ _).drew | exact HS0.out _ (below_on (s_below (by assumption)) (below_alloc1 _ _)))
                replace hHeld := hHeld2
                clear hK K hHeld2
                (try dsimp only at hHeld)
                (try simp only [List.setIfInBounds_toArray, List.set_cons_zero, List.set_cons_succ])
                refine wpAnyH_ready (rs := [12]) (by kernel_rfl) (by simp) ?_
                refine ready_at 12 ⟨_, rfl⟩ (fun o ho K hK => ?_) ?_
                · simp only [List.getElem?_toArray, List.getElem?_cons_succ, List.getElem?_cons_zero, Option.some.injEq] at ho
                  subst ho
                  go_simp
                  (first
                    | (go_at_call_of 56 gy; (try clear hS); refine (add_v (hx.below (s_below (by assumption))).val (hy.below (s_below (by assumption))).val (by omega)).mono ?_; rintro e w6 ⟨v6, rfl, ⟨g6, n6, c6, rfl, ho6, hn6⟩, hb⟩; have hz6 := size_on (s_below (by assumption)) hb; have hS := below_on (s_below (by assumption)) hb; (first | have hR := Arr2.below (Arr2.new _ gx ux nx gy uy ny) hb | have hR := Arr2.below (Arr2.new _ gx ux nx gy uy ny).drew hb | replace hR := Arr2.below hR hb | skip); (first | have hQ := Arr1.below (Arr1.new _ gx ux nx) hb | replace hQ := Arr1.below hQ hb | skip); clear hb)
                    | (go_at_call 56; (try clear hS); refine (add_v (hx.below (s_below (by assumption))).val (hx.below (s_below (by assumption))).val (by omega)).mono ?_; rintro e w6 ⟨v6, rfl, ⟨g6, n6, c6, rfl, ho6, hn6⟩, hb⟩; have hz6 := size_on (s_below (by assumption)) hb; have hS := below_on (s_below (by assumption)) hb; (first | have hR := Arr2.below (Arr2.new _ gx ux nx gy uy ny) hb | have hR := Arr2.below (Arr2.new _ gx ux nx gy uy ny).drew hb | replace hR := Arr2.below hR hb | skip); (first | have hQ := Arr1.below (Arr1.new _ gx ux nx) hb | replace hQ := Arr1.below hQ hb | skip); clear hb))
                  refine hK.out _ _ ?_ (fun hHeld2 => ?_)
                  · (try dsimp only)
                    (first | assumption | exact HS0.out _ (by assumption) | exact HS0.out _ (Below.drew (by assumption)) | exact HS0.out _ (Below.refl _ _).drew | exact HS0.out _ (below_on (s_below (by assumption)) (below_alloc1 _ _)))
                  replace hHeld := hHeld2
                  clear hK K hHeld2
                  (try dsimp only at hHeld)
                  (try simp only [List.setIfInBounds_toArray, List.set_cons_zero, List.set_cons_succ])
                  refine wpAnyH_ready (rs := [15]) (by kernel_rfl) (by simp) ?_
                  refine ready_at 15 ⟨_, rfl⟩ (fun o ho K hK => ?_) ?_
                  · simp only [List.getElem?_toArray, List.getElem?_cons_succ, List.getElem?_cons_zero, Option.some.injEq] at ho
                    subst ho
                    go_simp
                    (first
                      | (go_at_call_of 60 b; (try clear hS); refine (radd_v (h_a.below (s_below (by assumption))) (h_b.below (s_below (by assumption))) (by omega) (by omega)).mono ?_; rintro e w7 ⟨v7, rfl, ⟨A7, m7, d7, rfl, hs7, hn7⟩, hb⟩; have hS := below_on (s_below (by assumption)) hb; have hA7 : Below w6.heap.size w6 w7 := (by first | exact hb | exact below_on (below_alloc1 _ _) hb | exact below_on (below_drew1 _) hb | exact below_on (below_on (below_drew1 _) (below_alloc1 _ _)) hb); replace ho6 := ho6.below hA7; clear hA7; (first | have hR := Arr2.below (Arr2.new _ gx ux nx gy uy ny) hb | have hR := Arr2.below (Arr2.new _ gx ux nx gy uy ny).drew hb | replace hR := Arr2.below hR hb | skip); (first | have hQ := Arr1.below (Arr1.new _ gx ux nx) hb | replace hQ := Arr1.below hQ hb | skip); clear hb)
                      | (go_at_call 60; (try clear hS); refine (radd_v (h_a.below (s_below (by assumption))) (h_a.below (s_below (by assumption))) (by omega) (by omega)).mono ?_; rintro e w7 ⟨v7, rfl, ⟨A7, m7, d7, rfl, hs7, hn7⟩, hb⟩; have hS := below_on (s_below (by assumption)) hb; have hA7 : Below w6.heap.size w6 w7 := (by first | exact hb | exact below_on (below_alloc1 _ _) hb | exact below_on (below_drew1 _) hb | exact below_on (below_on (below_drew1 _) (below_alloc1 _ _)) hb); replace ho6 := ho6.below hA7; clear hA7; (first | have hR := Arr2.below (Arr2.new _ gx ux nx gy uy ny) hb | have hR := Arr2.below (Arr2.new _ gx ux nx gy uy ny).drew hb | replace hR := Arr2.below hR hb | skip); (first | have hQ := Arr1.below (Arr1.new _ gx ux nx) hb | replace hQ := Arr1.below hQ hb | skip); clear hb))
                    refine hK.out _ _ ?_ (fun hHeld2 => ?_)
                    · (try dsimp only)
                      (first | assumption | exact HS0.out _ (by assumption) | exact HS0.out _ (Below.drew (by assumption)) | exact HS0.out _ (Below.refl _ _).drew | exact HS0.out _ (below_on (s_below (by assumption)) (below_alloc1 _ _)))
                    replace hHeld := hHeld2
                    clear hK K hHeld2
                    (try dsimp only at hHeld)
                    (try simp only [List.setIfInBounds_toArray, List.set_cons_zero, List.set_cons_succ])
                    refine wpAnyH_ready (rs := [19]) (by kernel_rfl) (by simp) ?_
                    refine ready_at 19 ⟨_, rfl⟩ (fun o ho K hK => ?_) ?_
                    · simp only [List.getElem?_toArray, List.getElem?_cons_succ, List.getElem?_cons_zero, Option.some.injEq] at ho
                      subst ho
                      go_simp
                      (first
                        | (go_at_call_of 38 (2 : Nat); (try clear hS); refine (is_two (by first | exact ho6 | exact ho6.below (below_alloc1 _ _)) (by first | exact hs7 | exact hs7.below (below_alloc1 _ _)) (by omega) (by first | exact Arr2.new _ gx ux nx gy uy ny | exact hR) (hx.below (s_below (by assumption))) (hy.below (s_below (by assumption))) (by omega) (by omega) (by have := ho6.base_le; omega) hlx hly (by omega)).mono ?_; rintro e wn ⟨rfl, hg⟩; have hS := below_gb (s_below (by assumption)) hg (by have := ho6.base_le; omega); clear hg ho6 hs7 hz6; (try clear hR); (try clear hQ))
                        | (go_at_call_of 38 (1 : Nat); (try clear hS); refine (is_one (by first | exact ho6 | exact ho6.below (below_alloc1 _ _)) (by first | exact hs7 | exact hs7.below (below_alloc1 _ _)) (by omega) (by first | exact Arr1.new _ gx ux nx | exact hQ) (hx.below (s_below (by assumption))) (by omega) (by have := ho6.base_le; omega) hlx (by omega)).mono ?_; rintro e wn ⟨rfl, hg⟩; have hS := below_gb (s_below (by assumption)) hg (by have := ho6.base_le; omega); clear hg ho6 hs7 hz6; (try clear hR); (try clear hQ)))
                      refine hK.out _ _ ?_ (fun hHeld2 => ?_)
                      · (try dsimp only)
                        (first | assumption | exact HS0.out _ (by assumption) | exact HS0.out _ (Below.drew (by assumption)) | exact HS0.out _ (Below.refl _ _).drew | exact HS0.out _ (below_on (s_below (by assumption)) (below_alloc1 _ _)))
                      replace hHeld := hHeld2
                      clear hK K hHeld2
                      (try dsimp only at hHeld)
                      (try simp only [List.setIfInBounds_toArray, List.set_cons_zero, List.set_cons_succ])
                      refine take_at 20 (by kernel_rfl) (by kernel_rfl) (by kernel_rfl) (fun _ _ _ _ _ h => h) ⟨_, rfl⟩ (by assumption) (fun o ho => ?_)
                      simp only [List.getElem?_toArray, List.getElem?_cons_succ, List.getElem?_cons_zero, Option.some.injEq] at ho
                      subst ho
                      refine ⟨?_, ⟨by rfl, ?_⟩, ?_⟩
                      rotate_left
                      · intro w hSw
                        (try dsimp only at hSw)
                        (go_simp; try with_reducible rfl)
                      (try simp only [Act.put, List.setIfInBounds_toArray, List.set_cons_zero, List.set_cons_succ])
                      exact REST1 _ _ rfl hHeld
                    exact AllReadyH.nil
                  exact AllReadyH.nil
                exact AllReadyH.nil
              exact AllReadyH.nil
            refine ready_at 18 ⟨_, rfl⟩ (fun o ho K hK => ?_) ?_
            · simp only [List.getElem?_toArray, List.getElem?_cons_succ, List.getElem?_cons_zero, Option.some.injEq] at ho
              subst ho
              go_simp
              refine hK.out _ _ ?_ (fun hHeld2 => ?_)
              · (try dsimp only)
                (first | assumption | exact HS0.out _ (by assumption) | exact HS0.out _ (Below.drew (by assumption)) | exact HS0.out _ (Below.refl _ _).drew | exact HS0.out _ (below_on (s_below (by assumption)) (below_alloc1 _ _)))
              replace hHeld := hHeld2
              clear hK K hHeld2
              (try dsimp only at hHeld)
              (try simp only [List.setIfInBounds_toArray, List.set_cons_zero, List.set_cons_succ])
              refine wpAnyH_ready (rs := [11]) (by kernel_rfl) (by simp) ?_
              refine ready_at 11 ⟨_, rfl⟩ (fun o ho K hK => ?_) ?_
              · simp only [List.getElem?_toArray, List.getElem?_cons_succ, List.getElem?_cons_zero, Option.some.injEq] at ho
                subst ho
                go_simp
                (first
                  | (go_at_call_of 35 gx; (try clear hS); refine (list_any _ gx nx _ (by omega)).mono ?_; rintro e wn ⟨rfl, hb⟩; have hS := below_on (s_below (by assumption)) hb; (first | have hR := Arr2.below (Arr2.new _ gx ux nx gy uy ny) hb | have hR := Arr2.below (Arr2.new _ gx ux nx gy uy ny).drew hb | replace hR := Arr2.below hR hb | skip); (first | have hQ := Arr1.below (Arr1.new _ gx ux nx) hb | replace hQ := Arr1.below hQ hb | skip); clear hb)
                  | (go_at_call_of 35 gy; (try clear hS); refine (list_any _ gy ny _ (by omega)).mono ?_; rintro e wn ⟨rfl, hb⟩; have hS := below_on (s_below (by assumption)) hb; (first | have hR := Arr2.below (Arr2.new _ gx ux nx gy uy ny) hb | have hR := Arr2.below (Arr2.new _ gx ux nx gy uy ny).drew hb | replace hR := Arr2.below hR hb | skip); (first | have hQ := Arr1.below (Arr1.new _ gx ux nx) hb | replace hQ := Arr1.below hQ hb | skip); clear hb))
                refine hK.out _ _ ?_ (fun hHeld2 => ?_)
                · (try dsimp only)
                  (first | assumption | exact HS0.out _ (by assumption) | exact HS0.out _ (Below.drew (by assumption)) | exact HS0.out _ (Below.refl _ _).drew | exact HS0.out _ (below_on (s_below (by assumption)) (below_alloc1 _ _)))
                replace hHeld := hHeld2
                clear hK K hHeld2
                (try dsimp only at hHeld)
                (try simp only [List.setIfInBounds_toArray, List.set_cons_zero, List.set_cons_succ])
                refine wpAnyH_ready (rs := [12]) (by kernel_rfl) (by simp) ?_
                refine ready_at 12 ⟨_, rfl⟩ (fun o ho K hK => ?_) ?_
                · simp only [List.getElem?_toArray, List.getElem?_cons_succ, List.getElem?_cons_zero, Option.some.injEq] at ho
                  subst ho
                  go_simp
                  (first
                    | (go_at_call_of 56 gy; (try clear hS); refine (add_v (hx.below (s_below (by assumption))).val (hy.below (s_below (by assumption))).val (by omega)).mono ?_; rintro e w6 ⟨v6, rfl, ⟨g6, n6, c6, rfl, ho6, hn6⟩, hb⟩; have hz6 := size_on (s_below (by assumption)) hb; have hS := below_on (s_below (by assumption)) hb; (first | have hR := Arr2.below (Arr2.new _ gx ux nx gy uy ny) hb | have hR := Arr2.below (Arr2.new _ gx ux nx gy uy ny).drew hb | replace hR := Arr2.below hR hb | skip); (first | have hQ := Arr1.below (Arr1.new _ gx ux nx) hb | replace hQ := Arr1.below hQ hb | skip); clear hb)
                    | (go_at_call 56; (try clear hS); refine (add_v (hx.below (s_below (by assumption))).val (hx.below (s_below (by assumption))).val (by omega)).mono ?_; rintro e w6 ⟨v6, rfl, ⟨g6, n6, c6, rfl, ho6, hn6⟩, hb⟩; have hz6 := size_on (s_below (by assumption)) hb; have hS := below_on (s_below (by assumption)) hb; (first | have hR := Arr2.below (Arr2.new _ gx ux nx gy uy ny) hb | have hR := Arr2.below (Arr2.new _ gx ux nx gy uy ny).drew hb | replace hR := Arr2.below hR hb | skip); (first | have hQ := Arr1.below (Arr1.new _ gx ux nx) hb | replace hQ := Arr1.below hQ hb | skip); clear hb))
                  refine hK.out _ _ ?_ (fun hHeld2 => ?_)
                  · (try dsimp only)
                    (first | assumption | exact HS0.out _ (by assumption) | exact HS0.out _ (Below.drew (by assumption)) | exact HS0.out _ (Below.refl _ _).drew | exact HS0.out _ (below_on (s_below (by assumption)) (below_alloc1 _ _)))
                  replace hHeld := hHeld2
                  clear hK K hHeld2
                  (try dsimp only at hHeld)
                  (try simp only [List.setIfInBounds_toArray, List.set_cons_zero, List.set_cons_succ])
                  refine wpAnyH_ready (rs := [15]) (by kernel_rfl) (by simp) ?_
                  refine ready_at 15 ⟨_, rfl⟩ (fun o ho K hK => ?_) ?_
                  · simp only [List.getElem?_toArray, List.getElem?_cons_succ, List.getElem?_cons_zero, Option.some.injEq] at ho
                    subst ho
                    go_simp
                    (first
                      | (go_at_call_of 60 b; (try clear hS); refine (radd_v (h_a.below (s_below (by assumption))) (h_b.below (s_below (by assumption))) (by omega) (by omega)).mono ?_; rintro e w7 ⟨v7, rfl, ⟨A7, m7, d7, rfl, hs7, hn7⟩, hb⟩; have hS := below_on (s_below (by assumption)) hb; have hA7 : Below w6.heap.size w6 w7 := (by first | exact hb | exact below_on (below_alloc1 _ _) hb | exact below_on (below_drew1 _) hb | exact below_on (below_on (below_drew1 _) (below_alloc1 _ _)) hb); replace ho6 := ho6.below hA7; clear hA7; (first | have hR := Arr2.below (Arr2.new _ gx ux nx gy uy ny) hb | have hR := Arr2.below (Arr2.new _ gx ux nx gy uy ny).drew hb | replace hR := Arr2.below hR hb | skip); (first | have hQ := Arr1.below (Arr1.new _ gx ux nx) hb | replace hQ := Arr1.below hQ hb | skip); clear hb)
                      | (go_at_call 60; (try clear hS); refine (radd_v (h_a.below (s_below (by assumption))) (h_a.below (s_below (by assumption))) (by omega) (by omega)).mono ?_; rintro e w7 ⟨v7, rfl, ⟨A7, m7, d7, rfl, hs7, hn7⟩, hb⟩; have hS := below_on (s_below (by assumption)) hb; have hA7 : Below w6.heap.size w6 w7 := (by first | exact hb | exact below_on (below_alloc1 _ _) hb | exact below_on (below_drew1 _) hb | exact below_on (below_on (below_drew1 _) (below_alloc1 _ _)) hb); replace ho6 := ho6.below hA7; clear hA7; (first | have hR := Arr2.below (Arr2.new _ gx ux nx gy uy ny) hb | have hR := Arr2.below (Arr2.new _ gx ux nx gy uy ny).drew hb | replace hR := Arr2.below hR hb | skip); (first | have hQ := Arr1.below (Arr1.new _ gx ux nx) hb | replace hQ := Arr1.below hQ hb | skip); clear hb))
                    refine hK.out _ _ ?_ (fun hHeld2 => ?_)
                    · (try dsimp only)
                      (first | assumption | exact HS0.out _ (by assumption) | exact HS0.out _ (Below.drew (by assumption)) | exact HS0.out _ (Below.refl _ _).drew | exact HS0.out _ (below_on (s_below (by assumption)) (below_alloc1 _ _)))
                    replace hHeld := hHeld2
                    clear hK K hHeld2
                    (try dsimp only at hHeld)
                    (try simp only [List.setIfInBounds_toArray, List.set_cons_zero, List.set_cons_succ])
                    refine wpAnyH_ready (rs := [19]) (by kernel_rfl) (by simp) ?_
                    refine ready_at 19 ⟨_, rfl⟩ (fun o ho K hK => ?_) ?_
                    · simp only [List.getElem?_toArray, List.getElem?_cons_succ, List.getElem?_cons_zero, Option.some.injEq] at ho
                      subst ho
                      go_simp
                      (first
                        | (go_at_call_of 38 (2 : Nat); (try clear hS); refine (is_two (by first | exact ho6 | exact ho6.below (below_alloc1 _ _)) (by first | exact hs7 | exact hs7.below (below_alloc1 _ _)) (by omega) (by first | exact Arr2.new _ gx ux nx gy uy ny | exact hR) (hx.below (s_below (by assumption))) (hy.below (s_below (by assumption))) (by omega) (by omega) (by have := ho6.base_le; omega) hlx hly (by omega)).mono ?_; rintro e wn ⟨rfl, hg⟩; have hS := below_gb (s_below (by assumption)) hg (by have := ho6.base_le; omega); clear hg ho6 hs7 hz6; (try clear hR); (try clear hQ))
                        | (go_at_call_of 38 (1 : Nat); (try clear hS); refine (is_one (by first | exact ho6 | exact ho6.below (below_alloc1 _ _)) (by first | exact hs7 | exact hs7.below (below_alloc1 _ _)) (by omega) (by first | exact Arr1.new _ gx ux nx | exact hQ) (hx.below (s_below (by assumption))) (by omega) (by have := ho6.base_le; omega) hlx (by omega)).mono ?_; rintro e wn ⟨rfl, hg⟩; have hS := below_gb (s_below (by assumption)) hg (by have := ho6.base_le; omega); clear hg ho6 hs7 hz6; (try clear hR); (try clear hQ)))
                      refine hK.out _ _ ?_ (fun hHeld2 => ?_)
                      · (try dsimp only)
                        (first | assumption | exact HS0.out _ (by assumption) | exact HS0.out _ (Below.drew (by assumption)) | exact HS0.out _ (Below.refl _ _).drew | exact HS0.out _ (below_on (s_below (by assumption)) (below_alloc1 _ _)))
                      replace hHeld := hHeld2
                      clear hK K hHeld2
                      (try dsimp only at hHeld)
                      (try simp only [List.setIfInBounds_toArray, List.set_cons_zero, List.set_cons_succ])
                      refine take_at 20 (by kernel_rfl) (by kernel_rfl) (by kernel_rfl) (fun _ _ _ _ _ h => h) ⟨_, rfl⟩ (by assumption) (fun o ho => ?_)
                      simp only [List.getElem?_toArray, List.getElem?_cons_succ, List.getElem?_cons_zero, Option.some.injEq] at ho
                      subst ho
                      refine ⟨?_, ⟨by rfl, ?_⟩, ?_⟩
                      rotate_left
                      · intro w hSw
                        (try dsimp only at hSw)
                        (go_simp; try with_reducible rfl)
                      (try simp only [Act.put, List.setIfInBounds_toArray, List.set_cons_zero, List.set_cons_succ])
                      exact REST1 _ _ rfl hHeld
                    exact AllReadyH.nil
                  exact AllReadyH.nil
                exact AllReadyH.nil
              exact AllReadyH.nil
            exact AllReadyH.nil
          refine ready_at 18 ⟨_, rfl⟩ (fun o ho K hK => ?_) ?_
          · simp only [List.getElem?_toArray, List.getElem?_cons_succ, List.getElem?_cons_zero, Option.some.injEq] at ho
            subst ho
            go_simp
            refine hK.out _ _ ?_ (fun hHeld2 => ?_)
            · (try dsimp only)
              (first | assumption | exact HS0.out _ (by assumption) | exact HS0.out _ (Below.drew (by assumption)) | exact HS0.out _ (Below.refl _ _).drew | exact HS0.out _ (below_on (s_below (by assumption)) (below_alloc1 _ _)))
            replace hHeld := hHeld2
            clear hK K hHeld2
            (try dsimp only at hHeld)
            (try simp only [List.setIfInBounds_toArray, List.set_cons_zero, List.set_cons_succ])
            refine wpAnyH_ready (rs := [9]) (by kernel_rfl) (by simp) ?_
            refine ready_at 9 ⟨_, rfl⟩ (fun o ho K hK => ?_) ?_
            · simp only [List.getElem?_toArray, List.getElem?_cons_succ, List.getElem?_cons_zero, Option.some.injEq] at ho
              subst ho
              go_simp
              (first
                | (go_at_call_of 35 gx; (try clear hS); refine (list_any _ gx nx _ (by omega)).mono ?_; rintro e wn ⟨rfl, hb⟩; have hS := below_on (s_below (by assumption)) hb; (first | have hR := Arr2.below (Arr2.new _ gx ux nx gy uy ny) hb | have hR := Arr2.below (Arr2.new _ gx ux nx gy uy ny).drew hb | replace hR := Arr2.below hR hb | skip); (first | have hQ := Arr1.below (Arr1.new _ gx ux nx) hb | replace hQ := Arr1.below hQ hb | skip); clear hb)
                | (go_at_call_of 35 gy; (try clear hS); refine (list_any _ gy ny _ (by omega)).mono ?_; rintro e wn ⟨rfl, hb⟩; have hS := below_on (s_below (by assumption)) hb; (first | have hR := Arr2.below (Arr2.new _ gx ux nx gy uy ny) hb | have hR := Arr2.below (Arr2.new _ gx ux nx gy uy ny).drew hb | replace hR := Arr2.below hR hb | skip); (first | have hQ := Arr1.below (Arr1.new _ gx ux nx) hb | replace hQ := Arr1.below hQ hb | skip); clear hb))
              refine hK.out _ _ ?_ (fun hHeld2 => ?_)
              · (try dsimp only)
                (first | assumption | exact HS0.out _ (by assumption) | exact HS0.out _ (Below.drew (by assumption)) | exact HS0.out _ (Below.refl _ _).drew | exact HS0.out _ (below_on (s_below (by assumption)) (below_alloc1 _ _)))
              replace hHeld := hHeld2
              clear hK K hHeld2
              (try dsimp only at hHeld)
              (try simp only [List.setIfInBounds_toArray, List.set_cons_zero, List.set_cons_succ])
              refine wpAnyH_ready (rs := [11]) (by kernel_rfl) (by simp) ?_
              refine ready_at 11 ⟨_, rfl⟩ (fun o ho K hK => ?_) ?_
              · simp only [List.getElem?_toArray, List.getElem?_cons_succ, List.getElem?_cons_zero, Option.some.injEq] at ho
                subst ho
                go_simp
                (first
                  | (go_at_call_of 35 gx; (try clear hS); refine (list_any _ gx nx _ (by omega)).mono ?_; rintro e wn ⟨rfl, hb⟩; have hS := below_on (s_below (by assumption)) hb; (first | have hR := Arr2.below (Arr2.new _ gx ux nx gy uy ny) hb | have hR := Arr2.below (Arr2.new _ gx ux nx gy uy ny).drew hb | replace hR := Arr2.below hR hb | skip); (first | have hQ := Arr1.below (Arr1.new _ gx ux nx) hb | replace hQ := Arr1.below hQ hb | skip); clear hb)
                  | (go_at_call_of 35 gy; (try clear hS); refine (list_any _ gy ny _ (by omega)).mono ?_; rintro e wn ⟨rfl, hb⟩; have hS := below_on (s_below (by assumption)) hb; (first | have hR := Arr2.below (Arr2.new _ gx ux nx gy uy ny) hb | have hR := Arr2.below (Arr2.new _ gx ux nx gy uy ny).drew hb | replace hR := Arr2.below hR hb | skip); (first | have hQ := Arr1.below (Arr1.new _ gx ux nx) hb | replace hQ := Arr1.below hQ hb | skip); clear hb))
                refine hK.out _ _ ?_ (fun hHeld2 => ?_)
                · (try dsimp only)
                  (first | assumption | exact HS0.out _ (by assumption) | exact HS0.out _ (Below.drew (by assumption)) | exact HS0.out _ (Below.refl _ _).drew | exact HS0.out _ (below_on (s_below (by assumption)) (below_alloc1 _ _)))
                replace hHeld := hHeld2
                clear hK K hHeld2
                (try dsimp only at hHeld)
                (try simp only [List.setIfInBounds_toArray, List.set_cons_zero, List.set_cons_succ])
                refine wpAnyH_ready (rs := [12]) (by kernel_rfl) (by simp) ?_
                refine ready_at 12 ⟨_, rfl⟩ (fun o ho K hK => ?_) ?_
                · simp only [List.getElem?_toArray, List.getElem?_cons_succ, List.getElem?_cons_zero, Option.some.injEq] at ho
                  subst ho
                  go_simp
                  (first
                    | (go_at_call_of 56 gy; (try clear hS); refine (add_v (hx.below (s_below (by assumption))).val (hy.below (s_below (by assumption))).val (by omega)).mono ?_; rintro e w6 ⟨v6, rfl, ⟨g6, n6, c6, rfl, ho6, hn6⟩, hb⟩; have hz6 := size_on (s_below (by assumption)) hb; have hS := below_on (s_below (by assumption)) hb; (first | have hR := Arr2.below (Arr2.new _ gx ux nx gy uy ny) hb | have hR := Arr2.below (Arr2.new _ gx ux nx gy uy ny).drew hb | replace hR := Arr2.below hR hb | skip); (first | have hQ := Arr1.below (Arr1.new _ gx ux nx) hb | replace hQ := Arr1.below hQ hb | skip); clear hb)
                    | (go_at_call 56; (try clear hS); refine (add_v (hx.below (s_below (by assumption))).val (hx.below (s_below (by assumption))).val (by omega)).mono ?_; rintro e w6 ⟨v6, rfl, ⟨g6, n6, c6, rfl, ho6, hn6⟩, hb⟩; have hz6 := size_on (s_below (by assumption)) hb; have hS := below_on (s_below (by assumption)) hb; (first | have hR := Arr2.below (Arr2.new _ gx ux nx gy uy ny) hb | have hR := Arr2.below (Arr2.new _ gx ux nx gy uy ny).drew hb | replace hR := Arr2.below hR hb | skip); (first | have hQ := Arr1.below (Arr1.new _ gx ux nx) hb | replace hQ := Arr1.below hQ hb | skip); clear hb))
                  refine hK.out _ _ ?_ (fun hHeld2 => ?_)
                  · (try dsimp only)
                    (first | assumption | exact HS0.out _ (by assumption) | exact HS0.out _ (Below.drew (by assumption)) | exact HS0.out _ (Below.refl _ _).drew | exact HS0.out _ (below_on (s_below (by assumption)) (below_alloc1 _ _)))
                  replace hHeld := hHeld2
                  clear hK K hHeld2
                  (try dsimp only at hHeld)
                  (try simp only [List.setIfInBounds_toArray, List.set_cons_zero, List.set_cons_succ])
                  refine wpAnyH_ready (rs := [15]) (by kernel_rfl) (by simp) ?_
                  refine ready_at 15 ⟨_, rfl⟩ (fun o ho K hK => ?_) ?_
                  · simp only [List.getElem?_toArray, List.getElem?_cons_succ, List.getElem?_cons_zero, Option.some.injEq] at ho
                    subst ho
                    go_simp
                    (first
                      | (go_at_call_of 60 b; (try clear hS); refine (radd_v (h_a.below (s_below (by assumption))) (h_b.below (s_below (by assumption))) (by omega) (by omega)).mono ?_; rintro e w7 ⟨v7, rfl, ⟨A7, m7, d7, rfl, hs7, hn7⟩, hb⟩; have hS := below_on (s_below (by assumption)) hb; have hA7 : Below w6.heap.size w6 w7 := (by first | exact hb | exact below_on (below_alloc1 _ _) hb | exact below_on (below_drew1 _) hb | exact below_on (below_on (below_drew1 _) (below_alloc1 _ _)) hb); replace ho6 := ho6.below hA7; clear hA7; (first | have hR := Arr2.below (Arr2.new _ gx ux nx gy uy ny) hb | have hR := Arr2.below (Arr2.new _ gx ux nx gy uy ny).drew hb | replace hR := Arr2.below hR hb | skip); (first | have hQ := Arr1.below (Arr1.new _ gx ux nx) hb | replace hQ := Arr1.below hQ hb | skip); clear hb)
                      | (go_at_call 60; (try clear hS); refine (radd_v (h_a.below (s_below (by assumption))) (h_a.below (s_below (by assumption))) (by omega) (by omega)).mono ?_; rintro e w7 ⟨v7, rfl, ⟨A7, m7, d7, rfl, hs7, hn7⟩, hb⟩; have hS := below_on (s_below (by assumption)) hb; have hA7 : Below w6.heap.size w6 w7 := (by first | exact hb | exact below_on (below_alloc1 _ _) hb | exact below_on (below_drew1 _) hb | exact below_on (below_on (below_drew1 _) (below_alloc1 _ _)) hb); replace ho6 := ho6.below hA7; clear hA7; (first | have hR := Arr2.below (Arr2.new _ gx ux nx gy uy ny) hb | have hR := Arr2.below (Arr2.new _ gx ux nx gy uy ny).drew hb | replace hR := Arr2.below hR hb | skip); (first | have hQ := Arr1.below (Arr1.new _ gx ux nx) hb | replace hQ := Arr1.below hQ hb | skip); clear hb))
                    refine hK.out _ _ ?_ (fun hHeld2 => ?_)
                    · (try dsimp only)
                      (first | assumption | exact HS0.out _ (by assumption) | exact HS0.out _ (Below.drew (by assumption)) | exact HS0.out _ (Below.refl _ _).drew | exact HS0.out _ (below_on (s_below (by assumption)) (below_alloc1 _ _)))
                    replace hHeld := hHeld2
                    clear hK K hHeld2
                    (try dsimp only at hHeld)
                    (try simp only [List.setIfInBounds_toArray, List.set_cons_zero, List.set_cons_succ])
                    refine wpAnyH_ready (rs := [19]) (by kernel_rfl) (by simp) ?_
                    refine ready_at 19 ⟨_, rfl⟩ (fun o ho K hK => ?_) ?_
                    · simp only [List.getElem?_toArray, List.getElem?_cons_succ, List.getElem?_cons_zero, Option.some.injEq] at ho
                      subst ho
                      go_simp
                      (first
                        | (go_at_call_of 38 (2 : Nat); (try clear hS); refine (is_two (by first | exact ho6 | exact ho6.below (below_alloc1 _ _)) (by first | exact hs7 | exact hs7.below (below_alloc1 _ _)) (by omega) (by first | exact Arr2.new _ gx ux nx gy uy ny | exact hR) (hx.below (s_below (by assumption))) (hy.below (s_below (by assumption))) (by omega) (by omega) (by have := ho6.base_le; omega) hlx hly (by omega)).mono ?_; rintro e wn ⟨rfl, hg⟩; have hS := below_gb (s_below (by assumption)) hg (by have := ho6.base_le; omega); clear hg ho6 hs7 hz6; (try clear hR); (try clear hQ))
                        | (go_at_call_of 38 (1 : Nat); (try clear hS); refine (is_one (by first | exact ho6 | exact ho6.below (below_alloc1 _ _)) (by first | exact hs7 | exact hs7.below (below_alloc1 _ _)) (by omega) (by first | exact Arr1.new _ gx ux nx | exact hQ) (hx.below (s_below (by assumption))) (by omega) (by have := ho6.base_le; omega) hlx (by omega)).mono ?_; rintro e wn ⟨rfl, hg⟩; have hS := below_gb (s_below (by assumption)) hg (by have := ho6.base_le; omega); clear hg ho6 hs7 hz6; (try clear hR); (try clear hQ)))
                      refine hK.out _ _ ?_ (fun hHeld2 => ?_)
                      · (try dsimp only)
                        (first | assumption | exact HS0.out _ (by assumption) | exact HS0.out _ (Below.drew (by assumption)) | exact HS0.out _ (Below.refl _ _).drew | exact HS0.out _ (below_on (s_below (by assumption)) (below_alloc1 _ _)))
                      replace hHeld := hHeld2
                      clear hK K hHeld2
                      (try dsimp only at hHeld)
                      (try simp only [List.setIfInBounds_toArray, List.set_cons_zero, List.set_cons_succ])
                      refine take_at 20 (by kernel_rfl) (by kernel_rfl) (by kernel_rfl) (fun _ _ _ _ _ h => h) ⟨_, rfl⟩ (by assumption) (fun o ho => ?_)
                      simp only [List.getElem?_toArray, List.getElem?_cons_succ, List.getElem?_cons_zero, Option.some.injEq] at ho
                      subst ho
                      refine ⟨?_, ⟨by rfl, ?_⟩, ?_⟩
                      rotate_left
                      · intro w hSw
                        (try dsimp only at hSw)
                        (go_simp; try with_reducible rfl)
                      (try simp only [Act.put, List.setIfInBounds_toArray, List.set_cons_zero, List.set_cons_succ])
                      exact REST1 _ _ rfl hHeld
                    exact AllReadyH.nil
                  exact AllReadyH.nil
                exact AllReadyH.nil
              exact AllReadyH.nil
            exact AllReadyH.nil
          exact AllReadyH.nil
        exact AllReadyH.nil
      exact AllReadyH.nil
    exact AllReadyH.nil
end Go.Proofs.YtchbamlfdknkgaaDoor

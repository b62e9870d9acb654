/-
  riddleref02.Lcm: contract.
-/
import Derived.Test.YtiidghfkdjefgaaDoorZFloor
import Derived.Test.YtiidghfkdjefgaaDoorZHand
import Derived.Deep.Cut
namespace Go.Proofs.YtiidghfkdjefgaaDoor
open Go.RowKit

theorem foldN_lcm_zero {g k n : Nat} {zs : List Int} (h : k < n) (hn : n ≤ zs.length) (hz : zs.getD k 0 = 0) : foldN Nat.lcm g zs n = 0 := by
  induction n with
  | zero => omega
  | succ n ih =>
    rw [foldN_succ _ _ _ _ (by omega)]
    rcases Nat.lt_or_ge k n with h1 | h1
    · rw [ih h1 (by omega)]; exact Nat.lcm_zero_left _
    · obtain rfl : k = n := by omega
      rw [hz]; exact Nat.lcm_zero_right _
theorem fold_gcd2 (x y : Int) : ((foldN Nat.gcd 0 [x, y] 2 : Nat) : Int) = (Nat.gcd x.natAbs y.natAbs : Nat) := by simp [foldN]
theorem lcm_step (m : Nat) (x : Int) : (((m : Int).fdiv ((Nat.gcd (m : Int).natAbs x.natAbs : Nat) : Int) * x).natAbs : Int) = ((Nat.lcm m x.natAbs : Nat) : Int) := by
  rw [Int.natAbs_natCast, Int.natAbs_mul, ← Int.ofNat_fdiv, Int.natAbs_natCast]
  congr 1
  unfold Nat.lcm
  exact Nat.div_mul_right_comm (Nat.gcd_dvd_left _ _) _
theorem far_cell {w : World} {b b' k : Nat} {v u0 u1 : Value} (hne : b' ≠ b) (h : w.cell? ⟨b', k, none⟩ = some v) : ((w.setCell ⟨b, 0, none⟩ u0).setCell ⟨b, 1, none⟩ u1).cell? ⟨b', k, none⟩ = some v := by
  rw [World.cell?_setCell_other _ _ _ _ (fun h => hne (by injection h with h; exact h.symm)), World.cell?_setCell_other _ _ _ _ (fun h => hne (by injection h with h; exact h.symm))]
  exact h
set_option maxRecDepth 100000 in
set_option maxHeartbeats 8000000 in
theorem lcm_r {w : World} {A : Option Addr} {n c K0 : Nat} {zs : List Int} (harr : ArrI w A n K0 zs) (hK : 2 + n * (K0 + 3) + K0 ≤ 549755813888) (hn : n ≤ 1048576) :
    Calls Tryd.prog 49 #[.slice A n c] w fun e w' => ∃ u, e = .returned u ∧ ICan w' u (2 + n * (K0 + 3)) ((foldN Nat.lcm 1 zs n : Nat) : Int) ∧ Below w.heap.size w w' := by
  have hb0 := below_alloc1 w (.cells #[.bool false, .slice none 0 0] 24)
  have p2 := Pair.new w 24 (.bool false) (.slice none 0 0)
  have hne0 : 0 < n → ∀ b' o, A = some ⟨b', o, none⟩ → b' < w.heap.size := fun h b' o e => by
    obtain ⟨b, o2, e2, hc⟩ := harr.2 h
    rw [e2] at e
    injection e with e
    injection e with e _ _
    subst e
    obtain ⟨d, B, m, c, h1, _⟩ := hc 0 h
    exact World.block_lt_of_cell? w _ h1
  have HNE := Lib.hid hne0
  replace harr := harr.below hb0
  clear hne0
  go_enter Tryd.func49, Tryd.ntmps49
  go_wp2_with fail
  refine (of_r _ 1 (by omega)).mono ?_
  rintro e w1 ⟨v1, rfl, hv1, hb1⟩
  obtain ⟨d0, B0, m0, l0, rfl, HD0, hg0⟩ := hv1.form
  replace p2 := p2.below hb1
  replace harr := harr.below hb1
  have hbw := below_on hb0 hb1
  clear hb0 hb1
  go_upto_region 2 with (fail)
  obtain ⟨W, hW, p3, hb3⟩ := var_ne w1 d0 B0 m0 l0
  rw [← hW]
  have hlt32 : w.heap.size < w1.heap.size := by have := p2.lt; omega
  obtain ⟨b3, e3⟩ : ∃ b, b = w1.heap.size := ⟨_, rfl⟩
  rw [← e3] at p3 hlt32 ⊢
  have hle3 : w.heap.size ≤ b3 := by omega
  replace p2 := p2.below hb3
  replace harr := harr.below hb3
  replace hv1 := hv1.below hb3
  replace hbw := below_on hbw hb3
  clear hW e3 hb3 hg0 HD0
  go_wp2_with fail
  go_loopg [4, 5] n (fun gk v4 v5 wr => ∃ (k : Nat) (d : Bool) (B : Option Addr) (m l : Nat), gk + k = n ∧ v4 = .int .i64 (k : Nat) ∧ Pair wr b3 24 (.bool d) (.slice B m l) ∧ ICan wr (.agg #[.bool d, .slice B m l]) (2 + k * (K0 + 3)) ((foldN Nat.lcm 1 zs k : Nat) : Int) ∧ Pair wr w.heap.size 24 (.bool false) (.slice none 0 0) ∧ ArrI wr A n K0 zs ∧ Below w.heap.size w wr ∧ w.heap.size ≤ b3 ∧ w.heap.size < b3)
  case atStart => exact ⟨0, d0, B0, m0, l0, rfl, rfl, p3, by simpa [foldN] using hv1, p2, harr, hbw, hle3, hlt32⟩
  case round =>
    clear p3 p2 hv1 harr hbw hle3 hlt32
    obtain ⟨k, d1, B, m, l, hk, rfl, p3, hv, p2, harr, hbw, hle3, hlt32⟩ := hrel
    by_cases hkn : k < n
    · have hlt := HNE.out (by omega)
      have hne3 : ArrNe A b3 := fun b' o e => by have := hlt b' o e; omega
      have HN4 := Lib.hid hne3
      obtain ⟨b, o, rfl, hc⟩ := harr.2 (by omega)
      have hbne : b ≠ b3 := hne3 b o rfl
      have HNE3 := Lib.hid hbne
      obtain ⟨d2, B2, m2, l2, e0, e1, hz⟩ := hc k hkn
      have HC := Lib.hid hc
      have hKs : 2 + (k + 1) * (K0 + 3) = (2 + k * (K0 + 3) + 3) + K0 := by rw [Nat.add_mul]; omega
      have hKb : 2 + k * (K0 + 3) + 3 + K0 ≤ 549755813888 := by
        have := Nat.mul_le_mul_right (K0 + 3) (show k + 1 ≤ n by omega)
        rw [Nat.add_mul] at this
        omega
      have HKS := Lib.hid hKs
      clear hc hlt hne3 hbne hKs
      go_wp2_with fail
      refine (sign_r hz (by omega)).mono ?_
      rintro e w2 ⟨rfl, hb2⟩
      replace p3 := p3.below hb2
      replace p2 := p2.below hb2
      replace hv := hv.below hb2
      replace hz := hz.below hb2
      replace harr := harr.below hb2
      replace hbw := below_on hbw hb2
      replace e0 := keep_cell e0 hb2
      replace e1 := keep_cell e1 hb2
      clear hb2
      obtain ⟨x, hx⟩ : ∃ x, x = zs.getD k 0 := ⟨_, rfl⟩
      rw [← hx] at hz ⊢
      obtain ⟨σ, hσ⟩ : ∃ σ, σ = isgn x := ⟨_, rfl⟩
      rw [← hσ]
      by_cases hx0 : x = 0
      · have hs0 : σ = 0 := by rw [hσ, hx0]; rfl
        have hfz : foldN Nat.lcm 1 zs n = 0 := foldN_lcm_zero hkn (by rw [harr.1]; exact Nat.le_refl _) (by rw [← hx, hx0])
        have HFZ := Lib.hid hfz
        subst hs0
        clear hσ hfz hx hx0 e0 e1 hz
        obtain ⟨f0, f1, c0, c1⟩ := p2.facts
        go_wp2_with fail
        refine bodyPost_ret (results_cell_row rfl _ _ _ _ _ _ _ rfl (p2.set _ _) Tryd.underlying24 rfl sizeInt) rfl ?_
        exact ⟨_, rfl, by rw [HFZ.out]; exact (ican_zero _).le (Nat.zero_le _), below_pair hbw (Nat.le_refl _) _ _⟩
      · have hs0 : (σ == 0) = false := by
          rw [hσ]
          rcases isgn_cases x with ⟨h, e⟩ | ⟨h, e⟩ | ⟨h, e⟩
          · rw [e]; rfl
          · exact absurd h hx0
          · rw [e]; rfl
        have hval := lcm_step (foldN Nat.lcm 1 zs k) x
        rw [hx, ← foldN_succ Nat.lcm 1 zs k (by rw [harr.1]; exact hkn), ← hx] at hval
        have hgz : ((Nat.gcd ((foldN Nat.lcm 1 zs k : Nat) : Int).natAbs x.natAbs : Nat) : Int) ≠ 0 := by
          intro e
          have h1 : Nat.gcd ((foldN Nat.lcm 1 zs k : Nat) : Int).natAbs x.natAbs = 0 := by omega
          have := (Nat.gcd_eq_zero_iff.1 h1).2
          omega
        have HVAL := Lib.hid hval
        have HGZ := Lib.hid hgz
        clear hσ hx hx0 hval hgz
        go_upto_region 8 with (fail)
        have hSD := hbw.drew
        refine wp_region_noPanic ?_
        refine wp_region_held_drew (S := (fun w' => (w'.cell? ⟨b, o + k * 2, none⟩ = some (.bool d2) ∧ w'.cell? ⟨b, o + k * 2 + 1, none⟩ = some (.slice B2 m2 l2)) ∧ Below w.heap.size w w')) (by kernel_rfl) ?_ (fun hHeld => ?_)
        · exact ⟨⟨e0, e1⟩, hSD⟩
        have hS := hSD
        replace p3 := p3.drew
        replace p2 := p2.drew
        replace harr := harr.below (below_drew1 _)
        replace hz := hz.below (below_drew1 _)
        replace hv := hv.below (below_drew1 _)
        replace e0 := keep_cell e0 (below_drew1 _)
        replace e1 := keep_cell e1 (below_drew1 _)
        generalize hX0 : World.drew _ = X0 at *
        clear hX0 hbw hSD
        (try dsimp only at hHeld)
        refine take_at 2 (by kernel_rfl) (by kernel_rfl) (by kernel_rfl) (fun _ _ _ _ _ h => h) ⟨_, rfl⟩ (by assumption) (fun o ho => ?_)
        simp only [List.getElem?_toArray, List.getElem?_cons_succ, List.getElem?_cons_zero, Option.some.injEq] at ho
        subst ho
        refine ⟨?_, ⟨by rfl, ?_⟩, ?_⟩
        rotate_left
        · intro w hSw
          (try dsimp only at hSw)
          (go_simp; try with_reducible rfl)
        (try simp only [Act.put, List.setIfInBounds_toArray, List.set_cons_zero, List.set_cons_succ])
        refine take_at 3 (by kernel_rfl) (by kernel_rfl) (by kernel_rfl) (fun _ _ _ _ _ h => h) ⟨_, rfl⟩ (by assumption) (fun o ho => ?_)
        simp only [List.getElem?_toArray, List.getElem?_cons_succ, List.getElem?_cons_zero, Option.some.injEq] at ho
        subst ho
        refine ⟨?_, ⟨by rfl, ?_⟩, ?_⟩
        rotate_left
        · intro w hSw
          (try dsimp only at hSw)
          (go_simp; try with_reducible rfl)
        (try simp only [Act.put, List.setIfInBounds_toArray, List.set_cons_zero, List.set_cons_succ])
        refine take_at 4 (by kernel_rfl) (by kernel_rfl) (by kernel_rfl) (fun _ _ _ _ _ h => h) ⟨_, rfl⟩ (by assumption) (fun o ho => ?_)
        simp only [List.getElem?_toArray, List.getElem?_cons_succ, List.getElem?_cons_zero, Option.some.injEq] at ho
        subst ho
        refine ⟨?_, ⟨by rfl, ?_⟩, ?_⟩
        rotate_left
        · intro w hSw
          (try dsimp only at hSw)
          (go_simp; try with_reducible rfl)
        (try simp only [Act.put, List.setIfInBounds_toArray, List.set_cons_zero, List.set_cons_succ])
        refine take_at 5 (by kernel_rfl) (by kernel_rfl) (by kernel_rfl) (fun _ _ _ _ _ h => h) ⟨_, rfl⟩ (by assumption) (fun o ho => ?_)
        simp only [List.getElem?_toArray, List.getElem?_cons_succ, List.getElem?_cons_zero, Option.some.injEq] at ho
        subst ho
        refine ⟨?_, ⟨by rfl, ?_⟩, ?_⟩
        rotate_left
        · intro w hSw
          (try dsimp only at hSw)
          (go_simp; try with_reducible rfl)
        (try simp only [Act.put, List.setIfInBounds_toArray, List.set_cons_zero, List.set_cons_succ])
        refine take_at 9 (by kernel_rfl) (by kernel_rfl) (by kernel_rfl) (fun _ _ _ _ _ h => h) ⟨_, rfl⟩ (by assumption) (fun o ho => ?_)
        simp only [List.getElem?_toArray, List.getElem?_cons_succ, List.getElem?_cons_zero, Option.some.injEq] at ho
        subst ho
        refine ⟨?_, ⟨by rfl, ?_⟩, ?_⟩
        rotate_left
        · intro w hSw
          (try dsimp only at hSw)
          (go_simp; try with_reducible rfl)
        (try simp only [Act.put, List.setIfInBounds_toArray, List.set_cons_zero, List.set_cons_succ])
        refine take_at 10 (by kernel_rfl) (by kernel_rfl) (by kernel_rfl) (fun _ _ _ _ _ h => h) ⟨_, rfl⟩ (by assumption) (fun o ho => ?_)
        simp only [List.getElem?_toArray, List.getElem?_cons_succ, List.getElem?_cons_zero, Option.some.injEq] at ho
        subst ho
        refine ⟨?_, ⟨by rfl, ?_⟩, ?_⟩
        rotate_left
        · intro w hSw
          (try dsimp only at hSw)
          (go_simp; try with_reducible rfl)
        (try simp only [Act.put, List.setIfInBounds_toArray, List.set_cons_zero, List.set_cons_succ])
        refine take_at 11 (by kernel_rfl) (by kernel_rfl) (by kernel_rfl) (fun _ _ _ _ _ h => h) ⟨_, rfl⟩ (by assumption) (fun o ho => ?_)
        simp only [List.getElem?_toArray, List.getElem?_cons_succ, List.getElem?_cons_zero, Option.some.injEq] at ho
        subst ho
        refine ⟨?_, ⟨by rfl, ?_⟩, ?_⟩
        rotate_left
        · intro w hSw
          (try dsimp only at hSw)
          (go_simp; try with_reducible rfl)
        (try simp only [Act.put, List.setIfInBounds_toArray, List.set_cons_zero, List.set_cons_succ])
        refine take_at 12 (by kernel_rfl) (by kernel_rfl) (by kernel_rfl) (fun _ _ _ _ _ h => h) ⟨_, rfl⟩ (by assumption) (fun o ho => ?_)
        simp only [List.getElem?_toArray, List.getElem?_cons_succ, List.getElem?_cons_zero, Option.some.injEq] at ho
        subst ho
        refine ⟨?_, ⟨by rfl, ?_⟩, ?_⟩
        rotate_left
        · intro w hSw
          (try dsimp only at hSw)
          (go_simp; try with_reducible rfl)
        (try simp only [Act.put, List.setIfInBounds_toArray, List.set_cons_zero, List.set_cons_succ])
        refine wpAnyH_ready (rs := [0, 1]) (by kernel_rfl) (by simp) ?_
        refine ready_at 0 ⟨_, rfl⟩ (fun o ho K hK => ?_) ?_
        · simp only [List.getElem?_toArray, List.getElem?_cons_zero, Option.some.injEq] at ho
          subst ho
          obtain ⟨_, _, c30, c31⟩ := p3.facts
          go_simp
          refine hK.out _ _ ?_ (fun hHeld2 => ?_)
          · exact ⟨⟨e0, e1⟩, hS⟩
          replace hHeld := hHeld2
          clear hK K hHeld2 c30 c31
          (try dsimp only at hHeld)
          (try simp only [List.setIfInBounds_toArray, List.set_cons_zero, List.set_cons_succ])
          refine wpAnyH_ready (rs := [1]) (by kernel_rfl) (by simp) ?_
          refine ready_at 1 ⟨_, rfl⟩ (fun o ho K hK => ?_) ?_
          · simp only [List.getElem?_toArray, List.getElem?_cons_succ, List.getElem?_cons_zero, Option.some.injEq] at ho
            subst ho
            obtain ⟨_, _, c30, c31⟩ := p3.facts
            go_simp
            refine hK.out _ _ ?_ (fun hHeld2 => ?_)
            · exact ⟨⟨e0, e1⟩, hS⟩
            replace hHeld := hHeld2
            clear hK K hHeld2 c30 c31
            (try dsimp only at hHeld)
            (try simp only [List.setIfInBounds_toArray, List.set_cons_zero, List.set_cons_succ])
            refine wpAnyH_ready (rs := [6]) (by kernel_rfl) (by simp) ?_
            refine ready_at 6 ⟨_, rfl⟩ (fun o ho K hK => ?_) ?_
            · simp only [List.getElem?_toArray, List.getElem?_cons_succ, List.getElem?_cons_zero, Option.some.injEq] at ho
              subst ho
              go_simp
              obtain ⟨y3, hYn⟩ : ∃ Y : World, Y = X0.alloc (.cells #[.bool d1, .slice B m l, .bool d2, .slice B2 m2 l2] 24) := ⟨_, rfl⟩
              rw [← hYn]
              have hr2 := arr_two (K := (2 + k * (K0 + 3)) + K0) (hv.iv.le (by omega)) (hz.le (by omega)) hYn
              have hbk : Below X0.heap.size X0 y3 := by rw [hYn]; exact below_alloc1 _ _
              replace hS := below_on hS hbk
              replace p3 := p3.below hbk
              replace p2 := p2.below hbk
              replace harr := harr.below hbk
              replace hz := hz.below hbk
              replace hv := hv.below hbk
              replace e0 := keep_cell e0 hbk
              replace e1 := keep_cell e1 hbk
              refine hK.out _ _ ?_ (fun hHeld2 => ?_)
              · exact ⟨⟨e0, e1⟩, hS⟩
              replace hHeld := hHeld2
              clear hK K hHeld2 hYn hbk
              (try dsimp only at hHeld)
              (try simp only [List.setIfInBounds_toArray, List.set_cons_zero, List.set_cons_succ])
              refine wpAnyH_ready (rs := [7]) (by kernel_rfl) (by simp) ?_
              refine ready_at 7 ⟨_, rfl⟩ (fun o ho K hK => ?_) ?_
              · simp only [List.getElem?_toArray, List.getElem?_cons_succ, List.getElem?_cons_zero, Option.some.injEq] at ho
                subst ho
                go_simp
                refine (gcd_r hr2 (by omega) (by omega)).mono ?_
                rintro e y4 ⟨tg, rfl, htg, hbk⟩
                replace hS := below_on hS hbk
                replace p3 := p3.below hbk
                replace p2 := p2.below hbk
                replace harr := harr.below hbk
                replace hz := hz.below hbk
                replace hv := hv.below hbk
                replace e0 := keep_cell e0 hbk
                replace e1 := keep_cell e1 hbk
                rw [fold_gcd2] at htg
                clear hr2
                refine hK.out _ _ ?_ (fun hHeld2 => ?_)
                · exact ⟨⟨e0, e1⟩, hS⟩
                replace hHeld := hHeld2
                clear hK K hHeld2 hbk
                (try dsimp only at hHeld)
                (try simp only [List.setIfInBounds_toArray, List.set_cons_zero, List.set_cons_succ])
                refine wpAnyH_ready (rs := [8]) (by kernel_rfl) (by simp) ?_
                refine ready_at 8 ⟨_, rfl⟩ (fun o ho K hK => ?_) ?_
                · simp only [List.getElem?_toArray, List.getElem?_cons_succ, List.getElem?_cons_zero, Option.some.injEq] at ho
                  subst ho
                  go_simp
                  refine (floor_r hv.iv htg.iv (by omega) (by omega) HGZ.out).mono ?_
                  rintro e y5 ⟨tf, rfl, htf, hbk⟩
                  replace hS := below_on hS hbk
                  replace p3 := p3.below hbk
                  replace p2 := p2.below hbk
                  replace harr := harr.below hbk
                  replace hz := hz.below hbk
                  replace hv := hv.below hbk
                  replace e0 := keep_cell e0 hbk
                  replace e1 := keep_cell e1 hbk
                  clear htg
                  refine hK.out _ _ ?_ (fun hHeld2 => ?_)
                  · exact ⟨⟨e0, e1⟩, hS⟩
                  replace hHeld := hHeld2
                  clear hK K hHeld2 hbk
                  (try dsimp only at hHeld)
                  (try simp only [List.setIfInBounds_toArray, List.set_cons_zero, List.set_cons_succ])
                  refine wpAnyH_ready (rs := [13]) (by kernel_rfl) (by simp) ?_
                  refine ready_at 13 ⟨_, rfl⟩ (fun o ho K hK => ?_) ?_
                  · simp only [List.getElem?_toArray, List.getElem?_cons_succ, List.getElem?_cons_zero, Option.some.injEq] at ho
                    subst ho
                    go_simp
                    refine (mul_r htf.iv hz (by omega)).mono ?_
                    rintro e y6 ⟨tm, rfl, htm, hbk⟩
                    replace hS := below_on hS hbk
                    replace p3 := p3.below hbk
                    replace p2 := p2.below hbk
                    replace harr := harr.below hbk
                    replace hz := hz.below hbk
                    replace hv := hv.below hbk
                    replace e0 := keep_cell e0 hbk
                    replace e1 := keep_cell e1 hbk
                    clear htf
                    refine hK.out _ _ ?_ (fun hHeld2 => ?_)
                    · exact ⟨⟨e0, e1⟩, hS⟩
                    replace hHeld := hHeld2
                    clear hK K hHeld2 hbk
                    (try dsimp only at hHeld)
                    (try simp only [List.setIfInBounds_toArray, List.set_cons_zero, List.set_cons_succ])
                    refine wpAnyH_ready (rs := [14]) (by kernel_rfl) (by simp) ?_
                    refine ready_at 14 ⟨_, rfl⟩ (fun o ho K hK => ?_) ?_
                    · simp only [List.getElem?_toArray, List.getElem?_cons_succ, List.getElem?_cons_zero, Option.some.injEq] at ho
                      subst ho
                      go_simp
                      refine (abs_r htm.iv (by omega)).mono ?_
                      rintro e y7 ⟨ta, rfl, hta, hbk⟩
                      replace hS := below_on hS hbk
                      replace p3 := p3.below hbk
                      replace p2 := p2.below hbk
                      replace harr := harr.below hbk
                      replace hz := hz.below hbk
                      replace hv := hv.below hbk
                      replace e0 := keep_cell e0 hbk
                      replace e1 := keep_cell e1 hbk
                      rw [HVAL.out] at hta
                      obtain ⟨d9, A9, m9, k9, rfl, HD9, hg9⟩ := hta.form
                      clear htm hta
                      refine hK.out _ _ ?_ (fun hHeld2 => ?_)
                      · exact ⟨⟨e0, e1⟩, hS⟩
                      replace hHeld := hHeld2
                      clear hK K hHeld2 hbk
                      (try dsimp only at hHeld)
                      (try simp only [List.setIfInBounds_toArray, List.set_cons_zero, List.set_cons_succ])
                      refine wpAnyH_ready (rs := [15]) (by kernel_rfl) (by simp) ?_
                      refine ready_at 15 ⟨_, rfl⟩ (fun o ho K hK => ?_) ?_
                      · simp only [List.getElem?_toArray, List.getElem?_cons_succ, List.getElem?_cons_zero, Option.some.injEq] at ho
                        subst ho
                        obtain ⟨f30, f31, c30, c31⟩ := p3.facts
                        go_simp
                        refine hK.out _ _ ?_ (fun hHeld2 => ?_)
                        · exact ⟨⟨far_cell HNE3.out e0, far_cell HNE3.out e1⟩, below_pair hS hle3 _ _⟩
                        replace hHeld := hHeld2
                        clear hK K hHeld2 f30 f31 c30 c31
                        (try dsimp only at hHeld)
                        (try simp only [List.setIfInBounds_toArray, List.set_cons_zero, List.set_cons_succ])
                        refine wpAnyH_done (by kernel_rfl) ?_ _
                        refine NoPanic.normal ?_
                        go_wp2_with fail
                        go_roundg (gk - 1)
                        case measure => omega
                        case rel => exact ⟨k + 1, d9, A9, m9, k9, by omega, by go_num, p3.set _ _, by rw [HKS.out]; exact ICan.mk HD9.out (hg9.pair p3 _ _), p2.far (by omega) _ _, arr_pair harr p3 HN4.out, below_pair hS hle3 _ _, hle3, hlt32⟩
                      exact AllReadyH.nil
                    exact AllReadyH.nil
                  exact AllReadyH.nil
                exact AllReadyH.nil
              exact AllReadyH.nil
            exact AllReadyH.nil
          exact AllReadyH.nil
        refine ready_at 1 ⟨_, rfl⟩ (fun o ho K hK => ?_) ?_
        · simp only [List.getElem?_toArray, List.getElem?_cons_succ, List.getElem?_cons_zero, Option.some.injEq] at ho
          subst ho
          obtain ⟨_, _, c30, c31⟩ := p3.facts
          go_simp
          refine hK.out _ _ ?_ (fun hHeld2 => ?_)
          · exact ⟨⟨e0, e1⟩, hS⟩
          replace hHeld := hHeld2
          clear hK K hHeld2 c30 c31
          (try dsimp only at hHeld)
          (try simp only [List.setIfInBounds_toArray, List.set_cons_zero, List.set_cons_succ])
          refine wpAnyH_ready (rs := [0, 6]) (by kernel_rfl) (by simp) ?_
          refine ready_at 0 ⟨_, rfl⟩ (fun o ho K hK => ?_) ?_
          · simp only [List.getElem?_toArray, List.getElem?_cons_zero, Option.some.injEq] at ho
            subst ho
            obtain ⟨_, _, c30, c31⟩ := p3.facts
            go_simp
            refine hK.out _ _ ?_ (fun hHeld2 => ?_)
            · exact ⟨⟨e0, e1⟩, hS⟩
            replace hHeld := hHeld2
            clear hK K hHeld2 c30 c31
            (try dsimp only at hHeld)
            (try simp only [List.setIfInBounds_toArray, List.set_cons_zero, List.set_cons_succ])
            refine wpAnyH_ready (rs := [6]) (by kernel_rfl) (by simp) ?_
            refine ready_at 6 ⟨_, rfl⟩ (fun o ho K hK => ?_) ?_
            · simp only [List.getElem?_toArray, List.getElem?_cons_succ, List.getElem?_cons_zero, Option.some.injEq] at ho
              subst ho
              go_simp
              obtain ⟨y11, hYn⟩ : ∃ Y : World, Y = X0.alloc (.cells #[.bool d1, .slice B m l, .bool d2, .slice B2 m2 l2] 24) := ⟨_, rfl⟩
              rw [← hYn]
              have hr2 := arr_two (K := (2 + k * (K0 + 3)) + K0) (hv.iv.le (by omega)) (hz.le (by omega)) hYn
              have hbk : Below X0.heap.size X0 y11 := by rw [hYn]; exact below_alloc1 _ _
              replace hS := below_on hS hbk
              replace p3 := p3.below hbk
              replace p2 := p2.below hbk
              replace harr := harr.below hbk
              replace hz := hz.below hbk
              replace hv := hv.below hbk
              replace e0 := keep_cell e0 hbk
              replace e1 := keep_cell e1 hbk
              refine hK.out _ _ ?_ (fun hHeld2 => ?_)
              · exact ⟨⟨e0, e1⟩, hS⟩
              replace hHeld := hHeld2
              clear hK K hHeld2 hYn hbk
              (try dsimp only at hHeld)
              (try simp only [List.setIfInBounds_toArray, List.set_cons_zero, List.set_cons_succ])
              refine wpAnyH_ready (rs := [7]) (by kernel_rfl) (by simp) ?_
              refine ready_at 7 ⟨_, rfl⟩ (fun o ho K hK => ?_) ?_
              · simp only [List.getElem?_toArray, List.getElem?_cons_succ, List.getElem?_cons_zero, Option.some.injEq] at ho
                subst ho
                go_simp
                refine (gcd_r hr2 (by omega) (by omega)).mono ?_
                rintro e y12 ⟨tg, rfl, htg, hbk⟩
                replace hS := below_on hS hbk
                replace p3 := p3.below hbk
                replace p2 := p2.below hbk
                replace harr := harr.below hbk
                replace hz := hz.below hbk
                replace hv := hv.below hbk
                replace e0 := keep_cell e0 hbk
                replace e1 := keep_cell e1 hbk
                rw [fold_gcd2] at htg
                clear hr2
                refine hK.out _ _ ?_ (fun hHeld2 => ?_)
                · exact ⟨⟨e0, e1⟩, hS⟩
                replace hHeld := hHeld2
                clear hK K hHeld2 hbk
                (try dsimp only at hHeld)
                (try simp only [List.setIfInBounds_toArray, List.set_cons_zero, List.set_cons_succ])
                refine wpAnyH_ready (rs := [8]) (by kernel_rfl) (by simp) ?_
                refine ready_at 8 ⟨_, rfl⟩ (fun o ho K hK => ?_) ?_
                · simp only [List.getElem?_toArray, List.getElem?_cons_succ, List.getElem?_cons_zero, Option.some.injEq] at ho
                  subst ho
                  go_simp
                  refine (floor_r hv.iv htg.iv (by omega) (by omega) HGZ.out).mono ?_
                  rintro e y13 ⟨tf, rfl, htf, hbk⟩
                  replace hS := below_on hS hbk
                  replace p3 := p3.below hbk
                  replace p2 := p2.below hbk
                  replace harr := harr.below hbk
                  replace hz := hz.below hbk
                  replace hv := hv.below hbk
                  replace e0 := keep_cell e0 hbk
                  replace e1 := keep_cell e1 hbk
                  clear htg
                  refine hK.out _ _ ?_ (fun hHeld2 => ?_)
                  · exact ⟨⟨e0, e1⟩, hS⟩
                  replace hHeld := hHeld2
                  clear hK K hHeld2 hbk
                  (try dsimp only at hHeld)
                  (try simp only [List.setIfInBounds_toArray, List.set_cons_zero, List.set_cons_succ])
                  refine wpAnyH_ready (rs := [13]) (by kernel_rfl) (by simp) ?_
                  refine ready_at 13 ⟨_, rfl⟩ (fun o ho K hK => ?_) ?_
                  · simp only [List.getElem?_toArray, List.getElem?_cons_succ, List.getElem?_cons_zero, Option.some.injEq] at ho
                    subst ho
                    go_simp
                    refine (mul_r htf.iv hz (by omega)).mono ?_
                    rintro e y14 ⟨tm, rfl, htm, hbk⟩
                    replace hS := below_on hS hbk
                    replace p3 := p3.below hbk
                    replace p2 := p2.below hbk
                    replace harr := harr.below hbk
                    replace hz := hz.below hbk
                    replace hv := hv.below hbk
                    replace e0 := keep_cell e0 hbk
                    replace e1 := keep_cell e1 hbk
                    clear htf
                    refine hK.out _ _ ?_ (fun hHeld2 => ?_)
                    · exact ⟨⟨e0, e1⟩, hS⟩
                    replace hHeld := hHeld2
                    clear hK K hHeld2 hbk
                    (try dsimp only at hHeld)
                    (try simp only [List.setIfInBounds_toArray, List.set_cons_zero, List.set_cons_succ])
                    refine wpAnyH_ready (rs := [14]) (by kernel_rfl) (by simp) ?_
                    refine ready_at 14 ⟨_, rfl⟩ (fun o ho K hK => ?_) ?_
                    · simp only [List.getElem?_toArray, List.getElem?_cons_succ, List.getElem?_cons_zero, Option.some.injEq] at ho
                      subst ho
                      go_simp
                      refine (abs_r htm.iv (by omega)).mono ?_
                      rintro e y15 ⟨ta, rfl, hta, hbk⟩
                      replace hS := below_on hS hbk
                      replace p3 := p3.below hbk
                      replace p2 := p2.below hbk
                      replace harr := harr.below hbk
                      replace hz := hz.below hbk
                      replace hv := hv.below hbk
                      replace e0 := keep_cell e0 hbk
                      replace e1 := keep_cell e1 hbk
                      rw [HVAL.out] at hta
                      obtain ⟨d9, A9, m9, k9, rfl, HD9, hg9⟩ := hta.form
                      clear htm hta
                      refine hK.out _ _ ?_ (fun hHeld2 => ?_)
                      · exact ⟨⟨e0, e1⟩, hS⟩
                      replace hHeld := hHeld2
                      clear hK K hHeld2 hbk
                      (try dsimp only at hHeld)
                      (try simp only [List.setIfInBounds_toArray, List.set_cons_zero, List.set_cons_succ])
                      refine wpAnyH_ready (rs := [15]) (by kernel_rfl) (by simp) ?_
                      refine ready_at 15 ⟨_, rfl⟩ (fun o ho K hK => ?_) ?_
                      · simp only [List.getElem?_toArray, List.getElem?_cons_succ, List.getElem?_cons_zero, Option.some.injEq] at ho
                        subst ho
                        obtain ⟨f30, f31, c30, c31⟩ := p3.facts
                        go_simp
                        refine hK.out _ _ ?_ (fun hHeld2 => ?_)
                        · exact ⟨⟨far_cell HNE3.out e0, far_cell HNE3.out e1⟩, below_pair hS hle3 _ _⟩
                        replace hHeld := hHeld2
                        clear hK K hHeld2 f30 f31 c30 c31
                        (try dsimp only at hHeld)
                        (try simp only [List.setIfInBounds_toArray, List.set_cons_zero, List.set_cons_succ])
                        refine wpAnyH_done (by kernel_rfl) ?_ _
                        refine NoPanic.normal ?_
                        go_wp2_with fail
                        go_roundg (gk - 1)
                        case measure => omega
                        case rel => exact ⟨k + 1, d9, A9, m9, k9, by omega, by go_num, p3.set _ _, by rw [HKS.out]; exact ICan.mk HD9.out (hg9.pair p3 _ _), p2.far (by omega) _ _, arr_pair harr p3 HN4.out, below_pair hS hle3 _ _, hle3, hlt32⟩
                      exact AllReadyH.nil
                    exact AllReadyH.nil
                  exact AllReadyH.nil
                exact AllReadyH.nil
              exact AllReadyH.nil
            exact AllReadyH.nil
          refine ready_at 6 ⟨_, rfl⟩ (fun o ho K hK => ?_) ?_
          · simp only [List.getElem?_toArray, List.getElem?_cons_succ, List.getElem?_cons_zero, Option.some.injEq] at ho
            subst ho
            go_simp
            obtain ⟨y17, hYn⟩ : ∃ Y : World, Y = X0.alloc (.cells #[.bool d1, .slice B m l, .bool d2, .slice B2 m2 l2] 24) := ⟨_, rfl⟩
            rw [← hYn]
            have hr2 := arr_two (K := (2 + k * (K0 + 3)) + K0) (hv.iv.le (by omega)) (hz.le (by omega)) hYn
            have hbk : Below X0.heap.size X0 y17 := by rw [hYn]; exact below_alloc1 _ _
            replace hS := below_on hS hbk
            replace p3 := p3.below hbk
            replace p2 := p2.below hbk
            replace harr := harr.below hbk
            replace hz := hz.below hbk
            replace hv := hv.below hbk
            replace e0 := keep_cell e0 hbk
            replace e1 := keep_cell e1 hbk
            refine hK.out _ _ ?_ (fun hHeld2 => ?_)
            · exact ⟨⟨e0, e1⟩, hS⟩
            replace hHeld := hHeld2
            clear hK K hHeld2 hYn hbk
            (try dsimp only at hHeld)
            (try simp only [List.setIfInBounds_toArray, List.set_cons_zero, List.set_cons_succ])
            refine wpAnyH_ready (rs := [0, 7]) (by kernel_rfl) (by simp) ?_
            refine ready_at 0 ⟨_, rfl⟩ (fun o ho K hK => ?_) ?_
            · simp only [List.getElem?_toArray, List.getElem?_cons_zero, Option.some.injEq] at ho
              subst ho
              obtain ⟨_, _, c30, c31⟩ := p3.facts
              go_simp
              refine hK.out _ _ ?_ (fun hHeld2 => ?_)
              · exact ⟨⟨e0, e1⟩, hS⟩
              replace hHeld := hHeld2
              clear hK K hHeld2 c30 c31
              (try dsimp only at hHeld)
              (try simp only [List.setIfInBounds_toArray, List.set_cons_zero, List.set_cons_succ])
              refine wpAnyH_ready (rs := [7]) (by kernel_rfl) (by simp) ?_
              refine ready_at 7 ⟨_, rfl⟩ (fun o ho K hK => ?_) ?_
              · simp only [List.getElem?_toArray, List.getElem?_cons_succ, List.getElem?_cons_zero, Option.some.injEq] at ho
                subst ho
                go_simp
                refine (gcd_r hr2 (by omega) (by omega)).mono ?_
                rintro e y19 ⟨tg, rfl, htg, hbk⟩
                replace hS := below_on hS hbk
                replace p3 := p3.below hbk
                replace p2 := p2.below hbk
                replace harr := harr.below hbk
                replace hz := hz.below hbk
                replace hv := hv.below hbk
                replace e0 := keep_cell e0 hbk
                replace e1 := keep_cell e1 hbk
                rw [fold_gcd2] at htg
                clear hr2
                refine hK.out _ _ ?_ (fun hHeld2 => ?_)
                · exact ⟨⟨e0, e1⟩, hS⟩
                replace hHeld := hHeld2
                clear hK K hHeld2 hbk
                (try dsimp only at hHeld)
                (try simp only [List.setIfInBounds_toArray, List.set_cons_zero, List.set_cons_succ])
                refine wpAnyH_ready (rs := [8]) (by kernel_rfl) (by simp) ?_
                refine ready_at 8 ⟨_, rfl⟩ (fun o ho K hK => ?_) ?_
                · simp only [List.getElem?_toArray, List.getElem?_cons_succ, List.getElem?_cons_zero, Option.some.injEq] at ho
                  subst ho
                  go_simp
                  refine (floor_r hv.iv htg.iv (by omega) (by omega) HGZ.out).mono ?_
                  rintro e y20 ⟨tf, rfl, htf, hbk⟩
                  replace hS := below_on hS hbk
                  replace p3 := p3.below hbk
                  replace p2 := p2.below hbk
                  replace harr := harr.below hbk
                  replace hz := hz.below hbk
                  replace hv := hv.below hbk
                  replace e0 := keep_cell e0 hbk
                  replace e1 := keep_cell e1 hbk
                  clear htg
                  refine hK.out _ _ ?_ (fun hHeld2 => ?_)
                  · exact ⟨⟨e0, e1⟩, hS⟩
                  replace hHeld := hHeld2
                  clear hK K hHeld2 hbk
                  (try dsimp only at hHeld)
                  (try simp only [List.setIfInBounds_toArray, List.set_cons_zero, List.set_cons_succ])
                  refine wpAnyH_ready (rs := [13]) (by kernel_rfl) (by simp) ?_
                  refine ready_at 13 ⟨_, rfl⟩ (fun o ho K hK => ?_) ?_
                  · simp only [List.getElem?_toArray, List.getElem?_cons_succ, List.getElem?_cons_zero, Option.some.injEq] at ho
                    subst ho
                    go_simp
                    refine (mul_r htf.iv hz (by omega)).mono ?_
                    rintro e y21 ⟨tm, rfl, htm, hbk⟩
                    replace hS := below_on hS hbk
                    replace p3 := p3.below hbk
                    replace p2 := p2.below hbk
                    replace harr := harr.below hbk
                    replace hz := hz.below hbk
                    replace hv := hv.below hbk
                    replace e0 := keep_cell e0 hbk
                    replace e1 := keep_cell e1 hbk
                    clear htf
                    refine hK.out _ _ ?_ (fun hHeld2 => ?_)
                    · exact ⟨⟨e0, e1⟩, hS⟩
                    replace hHeld := hHeld2
                    clear hK K hHeld2 hbk
                    (try dsimp only at hHeld)
                    (try simp only [List.setIfInBounds_toArray, List.set_cons_zero, List.set_cons_succ])
                    refine wpAnyH_ready (rs := [14]) (by kernel_rfl) (by simp) ?_
                    refine ready_at 14 ⟨_, rfl⟩ (fun o ho K hK => ?_) ?_
                    · simp only [List.getElem?_toArray, List.getElem?_cons_succ, List.getElem?_cons_zero, Option.some.injEq] at ho
                      subst ho
                      go_simp
                      refine (abs_r htm.iv (by omega)).mono ?_
                      rintro e y22 ⟨ta, rfl, hta, hbk⟩
                      replace hS := below_on hS hbk
                      replace p3 := p3.below hbk
                      replace p2 := p2.below hbk
                      replace harr := harr.below hbk
                      replace hz := hz.below hbk
                      replace hv := hv.below hbk
                      replace e0 := keep_cell e0 hbk
                      replace e1 := keep_cell e1 hbk
                      rw [HVAL.out] at hta
                      obtain ⟨d9, A9, m9, k9, rfl, HD9, hg9⟩ := hta.form
                      clear htm hta
                      refine hK.out _ _ ?_ (fun hHeld2 => ?_)
                      · exact ⟨⟨e0, e1⟩, hS⟩
                      replace hHeld := hHeld2
                      clear hK K hHeld2 hbk
                      (try dsimp only at hHeld)
                      (try simp only [List.setIfInBounds_toArray, List.set_cons_zero, List.set_cons_succ])
                      refine wpAnyH_ready (rs := [15]) (by kernel_rfl) (by simp) ?_
                      refine ready_at 15 ⟨_, rfl⟩ (fun o ho K hK => ?_) ?_
                      · simp only [List.getElem?_toArray, List.getElem?_cons_succ, List.getElem?_cons_zero, Option.some.injEq] at ho
                        subst ho
                        obtain ⟨f30, f31, c30, c31⟩ := p3.facts
                        go_simp
                        refine hK.out _ _ ?_ (fun hHeld2 => ?_)
                        · exact ⟨⟨far_cell HNE3.out e0, far_cell HNE3.out e1⟩, below_pair hS hle3 _ _⟩
                        replace hHeld := hHeld2
                        clear hK K hHeld2 f30 f31 c30 c31
                        (try dsimp only at hHeld)
                        (try simp only [List.setIfInBounds_toArray, List.set_cons_zero, List.set_cons_succ])
                        refine wpAnyH_done (by kernel_rfl) ?_ _
                        refine NoPanic.normal ?_
                        go_wp2_with fail
                        go_roundg (gk - 1)
                        case measure => omega
                        case rel => exact ⟨k + 1, d9, A9, m9, k9, by omega, by go_num, p3.set _ _, by rw [HKS.out]; exact ICan.mk HD9.out (hg9.pair p3 _ _), p2.far (by omega) _ _, arr_pair harr p3 HN4.out, below_pair hS hle3 _ _, hle3, hlt32⟩
                      exact AllReadyH.nil
                    exact AllReadyH.nil
                  exact AllReadyH.nil
                exact AllReadyH.nil
              exact AllReadyH.nil
            refine ready_at 7 ⟨_, rfl⟩ (fun o ho K hK => ?_) ?_
            · simp only [List.getElem?_toArray, List.getElem?_cons_succ, List.getElem?_cons_zero, Option.some.injEq] at ho
              subst ho
              go_simp
              refine (gcd_r hr2 (by omega) (by omega)).mono ?_
              rintro e y24 ⟨tg, rfl, htg, hbk⟩
              replace hS := below_on hS hbk
              replace p3 := p3.below hbk
              replace p2 := p2.below hbk
              replace harr := harr.below hbk
              replace hz := hz.below hbk
              replace hv := hv.below hbk
              replace e0 := keep_cell e0 hbk
              replace e1 := keep_cell e1 hbk
              rw [fold_gcd2] at htg
              clear hr2
              refine hK.out _ _ ?_ (fun hHeld2 => ?_)
              · exact ⟨⟨e0, e1⟩, hS⟩
              replace hHeld := hHeld2
              clear hK K hHeld2 hbk
              (try dsimp only at hHeld)
              (try simp only [List.setIfInBounds_toArray, List.set_cons_zero, List.set_cons_succ])
              refine wpAnyH_ready (rs := [0]) (by kernel_rfl) (by simp) ?_
              refine ready_at 0 ⟨_, rfl⟩ (fun o ho K hK => ?_) ?_
              · simp only [List.getElem?_toArray, List.getElem?_cons_zero, Option.some.injEq] at ho
                subst ho
                obtain ⟨_, _, c30, c31⟩ := p3.facts
                go_simp
                refine hK.out _ _ ?_ (fun hHeld2 => ?_)
                · exact ⟨⟨e0, e1⟩, hS⟩
                replace hHeld := hHeld2
                clear hK K hHeld2 c30 c31
                (try dsimp only at hHeld)
                (try simp only [List.setIfInBounds_toArray, List.set_cons_zero, List.set_cons_succ])
                refine wpAnyH_ready (rs := [8]) (by kernel_rfl) (by simp) ?_
                refine ready_at 8 ⟨_, rfl⟩ (fun o ho K hK => ?_) ?_
                · simp only [List.getElem?_toArray, List.getElem?_cons_succ, List.getElem?_cons_zero, Option.some.injEq] at ho
                  subst ho
                  go_simp
                  refine (floor_r hv.iv htg.iv (by omega) (by omega) HGZ.out).mono ?_
                  rintro e y26 ⟨tf, rfl, htf, hbk⟩
                  replace hS := below_on hS hbk
                  replace p3 := p3.below hbk
                  replace p2 := p2.below hbk
                  replace harr := harr.below hbk
                  replace hz := hz.below hbk
                  replace hv := hv.below hbk
                  replace e0 := keep_cell e0 hbk
                  replace e1 := keep_cell e1 hbk
                  clear htg
                  refine hK.out _ _ ?_ (fun hHeld2 => ?_)
                  · exact ⟨⟨e0, e1⟩, hS⟩
                  replace hHeld := hHeld2
                  clear hK K hHeld2 hbk
                  (try dsimp only at hHeld)
                  (try simp only [List.setIfInBounds_toArray, List.set_cons_zero, List.set_cons_succ])
                  refine wpAnyH_ready (rs := [13]) (by kernel_rfl) (by simp) ?_
                  refine ready_at 13 ⟨_, rfl⟩ (fun o ho K hK => ?_) ?_
                  · simp only [List.getElem?_toArray, List.getElem?_cons_succ, List.getElem?_cons_zero, Option.some.injEq] at ho
                    subst ho
                    go_simp
                    refine (mul_r htf.iv hz (by omega)).mono ?_
                    rintro e y27 ⟨tm, rfl, htm, hbk⟩
                    replace hS := below_on hS hbk
                    replace p3 := p3.below hbk
                    replace p2 := p2.below hbk
                    replace harr := harr.below hbk
                    replace hz := hz.below hbk
                    replace hv := hv.below hbk
                    replace e0 := keep_cell e0 hbk
                    replace e1 := keep_cell e1 hbk
                    clear htf
                    refine hK.out _ _ ?_ (fun hHeld2 => ?_)
                    · exact ⟨⟨e0, e1⟩, hS⟩
                    replace hHeld := hHeld2
                    clear hK K hHeld2 hbk
                    (try dsimp only at hHeld)
                    (try simp only [List.setIfInBounds_toArray, List.set_cons_zero, List.set_cons_succ])
                    refine wpAnyH_ready (rs := [14]) (by kernel_rfl) (by simp) ?_
                    refine ready_at 14 ⟨_, rfl⟩ (fun o ho K hK => ?_) ?_
                    · simp only [List.getElem?_toArray, List.getElem?_cons_succ, List.getElem?_cons_zero, Option.some.injEq] at ho
                      subst ho
                      go_simp
                      refine (abs_r htm.iv (by omega)).mono ?_
                      rintro e y28 ⟨ta, rfl, hta, hbk⟩
                      replace hS := below_on hS hbk
                      replace p3 := p3.below hbk
                      replace p2 := p2.below hbk
                      replace harr := harr.below hbk
                      replace hz := hz.below hbk
                      replace hv := hv.below hbk
                      replace e0 := keep_cell e0 hbk
                      replace e1 := keep_cell e1 hbk
                      rw [HVAL.out] at hta
                      obtain ⟨d9, A9, m9, k9, rfl, HD9, hg9⟩ := hta.form
                      clear htm hta
                      refine hK.out _ _ ?_ (fun hHeld2 => ?_)
                      · exact ⟨⟨e0, e1⟩, hS⟩
                      replace hHeld := hHeld2
                      clear hK K hHeld2 hbk
                      (try dsimp only at hHeld)
                      (try simp only [List.setIfInBounds_toArray, List.set_cons_zero, List.set_cons_succ])
                      refine wpAnyH_ready (rs := [15]) (by kernel_rfl) (by simp) ?_
                      refine ready_at 15 ⟨_, rfl⟩ (fun o ho K hK => ?_) ?_
                      · simp only [List.getElem?_toArray, List.getElem?_cons_succ, List.getElem?_cons_zero, Option.some.injEq] at ho
                        subst ho
                        obtain ⟨f30, f31, c30, c31⟩ := p3.facts
                        go_simp
                        refine hK.out _ _ ?_ (fun hHeld2 => ?_)
                        · exact ⟨⟨far_cell HNE3.out e0, far_cell HNE3.out e1⟩, below_pair hS hle3 _ _⟩
                        replace hHeld := hHeld2
                        clear hK K hHeld2 f30 f31 c30 c31
                        (try dsimp only at hHeld)
                        (try simp only [List.setIfInBounds_toArray, List.set_cons_zero, List.set_cons_succ])
                        refine wpAnyH_done (by kernel_rfl) ?_ _
                        refine NoPanic.normal ?_
                        go_wp2_with fail
                        go_roundg (gk - 1)
                        case measure => omega
                        case rel => exact ⟨k + 1, d9, A9, m9, k9, by omega, by go_num, p3.set _ _, by rw [HKS.out]; exact ICan.mk HD9.out (hg9.pair p3 _ _), p2.far (by omega) _ _, arr_pair harr p3 HN4.out, below_pair hS hle3 _ _, hle3, hlt32⟩
                      exact AllReadyH.nil
                    exact AllReadyH.nil
                  exact AllReadyH.nil
                exact AllReadyH.nil
              exact AllReadyH.nil
            exact AllReadyH.nil
          exact AllReadyH.nil
        exact AllReadyH.nil
    · obtain rfl : k = n := by omega
      obtain ⟨f0, f1, c0, c1⟩ := p2.facts
      obtain ⟨_, _, c30, c31⟩ := p3.facts
      go_wp2_with fail
      refine bodyPost_ret (results_cell_row rfl _ _ _ _ _ _ _ rfl (p2.set _ _) Tryd.underlying24 rfl sizeInt) rfl ?_
      exact ⟨_, rfl, ican_pair hv p2 _ _, below_pair hbw (Nat.le_refl _) _ _⟩
end Go.Proofs.YtiidghfkdjefgaaDoor

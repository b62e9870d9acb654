/-
  zint.DivMod: contract.
-/
import Derived.Test.YtiidghfkdjefgaaDoorZDz
namespace Go.Proofs.YtiidghfkdjefgaaDoor
open Go.RowKit

set_option maxRecDepth 100000 in
set_option maxHeartbeats 16000000 in
theorem dm_n {w : World} {a b : Value} {K L : Nat} {x y : Int} (ha : IV w a K x) (hb : IV w b L y) (hK : K ≤ 4398046511104) (hL : L ≤ 4398046511104) (hy : y ≠ 0) :
    Calls Tryd.prog 13 #[a, b] w fun e w' => ∃ q r, e = .returned (.tuple #[q, r, .int .i64 0]) ∧ (ICan w' q (K + 3) (x.fdiv y) ∧ ICan w' r (2 * L + 1) (x.fmod y)) ∧ Below w.heap.size w w' ∧ (NwI w.heap.size w' q ∧ NwI w.heap.size w' r ∧ Sep q r) := by
  obtain ⟨s, m, ⟨sa, rfl, ha⟩, hx0⟩ := ha
  obtain ⟨t, n, ⟨sb, rfl, hb⟩, hy0⟩ := hb
  have HX0 := Lib.hid hx0
  have HY0 := Lib.hid hy0
  clear hx0 hy0
  obtain ⟨sa0, sa1, sa2, rfl⟩ := ha.slice
  obtain ⟨sb0, sb1, sb2, rfl⟩ := hb.slice
  obtain ⟨W, hW, hp0, hp1, hp2, hp3, hsz, hbW⟩ := enter4 w 24 (.bool s) (.slice sa0 sa1 sa2) (.bool t) (.slice sb0 sb1 sb2)
  have HW := Lib.hid hW
  clear hW
  go_enter Tryd.func13, Tryd.ntmps13
  go_wp2_with fail
  rw [← HW.out]
  go_cut [] from 9 (fun wc => (At wc w.heap.size K x ∧ At wc (w.heap.size + 1) L y ∧ Pair wc (w.heap.size + 2) 24 (.bool false) (.slice none 0 0) ∧ Pair wc (w.heap.size + 3) 24 (.bool false) (.slice none 0 0)) ∧ Below w.heap.size w wc)
  case first =>
    obtain ⟨f00, f01, c00, c01⟩ := hp0.facts
    obtain ⟨f10, f11, c10, c11⟩ := hp1.facts
    have hbD : Below w.heap.size w W.drew := hbW.drew
    clear hbW hsz
    go_region_with (first
      | (go_at_call_of 39 (Value.agg #[.bool s, .slice sa0 sa1 sa2]); refine (norm_i (z := x) (K := K) ⟨s, m, ⟨_, rfl, ha.below hbD⟩, HX0.out⟩ (by omega)).mono ?_; rintro e w1 ⟨v1, rfl, hv1, hb1⟩; obtain ⟨d1, A1, n1, k1, rfl, HD1, hg1⟩ := hv1.form; clear hv1; have hS := below_on hbD hb1; replace hp0 := hp0.drew.below hb1; replace hp1 := hp1.drew.below hb1; replace hp2 := hp2.drew.below hb1; replace hp3 := hp3.drew.below hb1; clear hbD f00 f01 c00 c01 f10 f11 c10 c11; obtain ⟨f00, f01, c00, c01⟩ := hp0.facts; obtain ⟨f10, f11, c10, c11⟩ := hp1.facts; clear hb1)
      | (go_at_call_of 39 (Value.agg #[.bool t, .slice sb0 sb1 sb2]); refine (norm_i (z := y) (K := L) ⟨t, n, ⟨_, rfl, hb.below hS⟩, HY0.out⟩ (by omega)).mono ?_; rintro e w2 ⟨v2, rfl, hv2, hb2⟩; obtain ⟨d2, A2, n2, k2, rfl, HD2, hg2⟩ := hv2.form; clear hv2; replace hg1 := hg1.below hb2; replace hS := below_on hS hb2; replace hp0 := hp0.below hb2; replace hp1 := hp1.below hb2; replace hp2 := hp2.below hb2; replace hp3 := hp3.below hb2; clear f00 f01 c00 c01 f10 f11 c10 c11; obtain ⟨f00, f01, c00, c01⟩ := hp0.facts; obtain ⟨f10, f11, c10, c11⟩ := hp1.facts; clear hb2))
    all_goals
      go_wp2_with fail
      go_meet
      case rel =>
        exact ⟨⟨At.of ((hp0.set _ _).far (by omega) _ _) HD1 ((hg1.pair hp0 _ _).pair (hp1.far (by omega) _ _) _ _), At.of ((hp1.far (by omega) _ _).set _ _) HD2 ((hg2.pair hp0 _ _).pair (hp1.far (by omega) _ _) _ _), (hp2.far (by omega) _ _).far (by omega) _ _, (hp3.far (by omega) _ _).far (by omega) _ _⟩, below_pair (below_pair hS (Nat.le_refl _) _ _) (Nat.le_succ _) _ _⟩
  case rest =>
    clear HX0 HY0 ha hb hp0 hp1 hp2 hp3 HW hbW
    obtain ⟨⟨⟨dx, Ax, nx, kx, hp0, HDX, hgx⟩, ⟨dy, Ay, ny, ky, hp1, HDY, hgy⟩, hp2, hp3⟩, hbw⟩ := hcut
    obtain ⟨_, _, c00, c01⟩ := hp0.facts
    obtain ⟨_, _, c10, c11⟩ := hp1.facts
    go_wp2_with fail
    refine (dm_v hgx.mag.val hgy.mag.val (by omega) (by omega) (by omega)).mono ?_
    rintro e w3 ⟨q0, r0, rfl, hq0, hr0, _, hb3⟩
    replace hq0 := hq0.bag.mag
    replace hr0 := hr0.bag.mag
    replace hp0 := hp0.below hb3
    replace hp1 := hp1.below hb3
    replace hp2 := hp2.below hb3
    replace hp3 := hp3.below hb3
    replace hgy := hgy.below hb3
    replace hbw := below_on hbw hb3
    clear hgx hb3 c00 c01 c10 c11
    go_wp2_with fail
    go_cut [] from 9 (fun wc => (At wc (w.heap.size + 1) L y ∧ AtT w.heap.size wc (w.heap.size + 2) (w.heap.size + 3) K L (sgn (decide (x < 0) != decide (y < 0)) (x.natAbs / y.natAbs)) (sgn (decide (x < 0)) (x.natAbs % y.natAbs))) ∧ Below w.heap.size w wc)
    case first =>
      obtain ⟨_, _, c00, _⟩ := hp0.facts
      obtain ⟨_, _, c10, _⟩ := hp1.facts
      have hz3 := hp3.lt
      have hS0 : ∀ w', Below (w.heap.size + 2) w3 w' → (w'.cell? ⟨w.heap.size, 0, none⟩ = some (.bool dx) ∧ w'.cell? ⟨w.heap.size + 1, 0, none⟩ = some (.bool dy)) ∧ Below (w.heap.size + 2) w3 w' := fun w' h => ⟨⟨(hp0.keep h (by omega)).facts.2.2.1, (hp1.keep h (by omega)).facts.2.2.1⟩, h⟩
      have HS0 := Lib.hid hS0
      have hR0 : w.heap.size + 2 ≤ w3.heap.size := by omega
      have HR := Lib.hid hR0
      clear hS0 hR0 hz3
      go_region_held3 (fun w' => (w'.cell? ⟨w.heap.size, 0, none⟩ = some (.bool dx) ∧ w'.cell? ⟨w.heap.size + 1, 0, none⟩ = some (.bool dy)) ∧ Below (w.heap.size + 2) w3 w')
        (first | assumption | exact HS0.out _ (by assumption) | exact HS0.out _ (Below.drew (by assumption)) | exact HS0.out _ (Below.refl _ _).drew | exact HS0.out _ (below_pair (by assumption) (Nat.le_refl _) _ _) | exact HS0.out _ (below_pair (below_pair (by assumption) (Nat.le_refl _) _ _) (Nat.le_succ _) _ _))
        (first
          | (go_at_call_of 53 q0; (try clear hS); refine (made_n _ (dx != dy) q0 _ _ (hq0.below (Below.refl _ _).drew) (by omega)).mono ?_; rintro e w4 ⟨v1, rfl, hv1, hb4, hn1⟩; have HN1 := Lib.hid (hn1.le (base' := w.heap.size) hbw.size); clear hn1; rw [HDX.out, HDY.out] at hv1; obtain ⟨d1, A1, n1, k1, rfl, HD1, hg1⟩ := hv1.form; clear hv1; have hS := on_go HR.out (s_below (by assumption)) hb4; replace hp2 := hp2.drew.below hb4; replace hp3 := hp3.drew.below hb4; replace hr0 := (hr0.below (Below.refl _ _).drew).below hb4; replace hgy := (hgy.below (Below.refl _ _).drew).below hb4; clear hb4 hq0)
          | (go_at_call_of 53 r0; refine (made_n _ dx r0 _ _ hr0 (by omega)).mono ?_; rintro e w5 ⟨v2, rfl, hv2, hb5, hn2⟩; have HSP := Lib.hid (HN1.out.sep hn2); have HN2 := Lib.hid (hn2.le (base' := w.heap.size) (Nat.le_trans hbw.size hS.size)); clear hn2; replace HN1 := Lib.hid (HN1.out.below hb5); rw [HDX.out] at hv2; obtain ⟨d2, A2, n2, k2, rfl, HD2, hg2⟩ := hv2.form; clear hv2; have hS2 := on_go HR.out hS hb5; clear hS; have hS := hS2; clear hS2; replace hg1 := hg1.below hb5; replace hgy := hgy.below hb5; replace hp2 := hp2.below hb5; replace hp3 := hp3.below hb5; obtain ⟨f20, f21, c20, c21⟩ := hp2.facts; obtain ⟨f30, f31, c30, c31⟩ := hp3.facts; clear hb5 hr0))
      all_goals
        go_wp2_with fail
        go_meet
        case rel =>
          have hp1' := hp1.keep hS (by omega)
          have hbw' := hbw.trans (hS.mono (by omega))
          have hp3' := hp3.far (b' := w.heap.size + 2) (by omega) (.bool d1) (.slice A1 n1 k1)
          exact ⟨⟨At.of ((hp1'.far (by omega) _ _).far (by omega) _ _) HDY ((hgy.pair hp2 _ _).pair hp3' _ _), AtT.of ((hp2.set _ _).far (by omega) _ _) HD1 ((hg1.pair hp2 _ _).pair hp3' _ _) ((HN1.out.pair hp2 _ _).pair hp3' _ _) (hp3'.set _ _) HD2 ((hg2.pair hp2 _ _).pair hp3' _ _) ((HN2.out.pair hp2 _ _).pair hp3' _ _) HSP⟩, below_pair (below_pair hbw' (by omega) _ _) (by omega) _ _⟩
    case rest =>
      clear hp0 hp1 hp2 hp3 hgy hq0 hr0 HDX HDY hbw
      obtain ⟨⟨⟨ey, Ay2, ny2, ky2, hp1, HDY, hgy⟩, ⟨dq, Aq, nq, kq, dr, Ar, nr, kr, hp2, HDQ, hgq, HNQ, hp3, HDR, hgr, HNR, HSP⟩⟩, hbw⟩ := hcut
      obtain ⟨_, _, c10, c11⟩ := hp1.facts
      obtain ⟨f20, f21, c20, c21⟩ := hp2.facts
      obtain ⟨f30, f31, c30, c31⟩ := hp3.facts
      have hlen := hgr.len
      rw [natAbs_sgn] at hlen
      have hR := HDR.out
      rw [sgn_neg] at hR
      have hcase : (x.natAbs % y.natAbs = 0 ∧ nr = 0) ∨ (x.natAbs % y.natAbs ≠ 0 ∧ 0 < nr ∧ decide (x < 0) = decide (y < 0) ∧ (dr != ey) = false) ∨ (x.natAbs % y.natAbs ≠ 0 ∧ 0 < nr ∧ decide (x < 0) ≠ decide (y < 0) ∧ (dr != ey) = true) := by
        rcases Nat.eq_zero_or_pos (x.natAbs % y.natAbs) with h0 | h0
        · exact .inl ⟨h0, by rw [hlen, h0]; rfl⟩
        · have hn : 0 < nr := by
            rcases Nat.eq_zero_or_pos nr with h | h
            · have h2 := List.eq_nil_of_length_eq_zero (hlen.symm.trans h); rw [N.ofN_eq_nil] at h2; omega
            · exact h
          rw [decide_eq_true h0, Bool.and_true] at hR
          rw [hR, HDY.out]
          by_cases he : decide (x < 0) = decide (y < 0)
          · exact .inr (.inl ⟨by omega, hn, he, by rw [he]; simp⟩)
          · exact .inr (.inr ⟨by omega, hn, he, by simpa using he⟩)
      have HX := @fdm_plain (decide (x < 0)) (decide (y < 0)) x.natAbs y.natAbs (by omega)
      have HX2 := @fdm_step (decide (x < 0)) (decide (y < 0)) x.natAbs y.natAbs (by omega)
      rw [sgn_abs, sgn_abs] at HX HX2
      have HXP := Lib.hid HX
      have HXS := Lib.hid HX2
      clear HX HX2 hlen hR
      obtain ⟨β, hβ⟩ : ∃ β : Bool, β = (decide (0 < x.natAbs % y.natAbs) && (decide (x < 0) != decide (y < 0))) := ⟨_, rfl⟩
      go_upto_region 6 with (fail)
      go_cut [48] from 9 (fun v48 wr => v48 = .bool β ∧ wr = wc)
      case first =>
        rcases hcase with ⟨h0, rfl⟩ | ⟨h0, hn, he, tb⟩ | ⟨h0, hn, he, tb⟩
        · have hb : β = false := by rw [hβ, h0]; simp
          have HB := Lib.hid hb
          clear hb hβ h0 HXP HXS hy
          go_wp2_with fail
          go_meet
          case rel => exact ⟨by rw [HB.out], rfl⟩
        · have hb : β = false := by rw [hβ, he]; simp
          have HB := Lib.hid hb
          clear hb hβ h0 he HXP HXS hy
          go_wp2_with fail
          go_meet
          case rel => exact ⟨by rw [HB.out]; exact congrArg Value.bool tb, rfl⟩
        · have hb : β = true := by rw [hβ, decide_eq_true (show 0 < x.natAbs % y.natAbs by omega), Bool.true_and]; simpa using he
          have HB := Lib.hid hb
          clear hb hβ h0 he HXP HXS hy
          go_wp2_with fail
          go_meet
          case rel => exact ⟨by rw [HB.out]; exact congrArg Value.bool tb, rfl⟩
      case rest =>
        obtain ⟨rfl, hwc⟩ := hcut
        subst hwc
        go_upto_if 48 with (fail)
        go_cut [] from 9 (fun wr => AtT w.heap.size wr (w.heap.size + 2) (w.heap.size + 3) (K + 3) (2 * L + 1) (x.fdiv y) (x.fmod y) ∧ Below w.heap.size w wr)
        case first =>
          cases hb : β
          · have h : x.natAbs % y.natAbs = 0 ∨ decide (x < 0) = decide (y < 0) := by
              rw [hβ] at hb
              rcases Nat.eq_zero_or_pos (x.natAbs % y.natAbs) with h0 | h0
              · exact .inl h0
              · rw [decide_eq_true h0, Bool.true_and] at hb
                exact .inr (by simpa using hb)
            obtain ⟨e1, e2⟩ := HXP.out h
            rw [← e1] at HDQ hgq
            rw [← e2] at HDR hgr
            clear e1 e2 h hβ HXP HXS hb hy hcase
            go_wp2_with fail
            go_meet
            case rel => exact ⟨AtT.of hp2 HDQ (hgq.le (by omega)) HNQ.out hp3 HDR (hgr.le (by omega)) HNR.out HSP, hbw⟩
          · have h : x.natAbs % y.natAbs ≠ 0 ∧ decide (x < 0) ≠ decide (y < 0) := by
              rw [hβ, Bool.and_eq_true] at hb
              exact ⟨by have := of_decide_eq_true hb.1; omega, by simpa using hb.2⟩
            obtain ⟨e1, e2⟩ := HXS.out h.1 h.2
            have E1 := Lib.hid e1
            have E2 := Lib.hid e2
            clear e1 e2 h hβ HXP HXS hb hy hcase
            go_wp2_with fail
            have hbD : Below w.heap.size w wc.drew := hbw.drew
            have hz3 := hp3.lt
            have hS0 : ∀ w', Below (w.heap.size + 2) wc w' → (w'.cell? ⟨w.heap.size + 1, 0, none⟩ = some (.bool ey) ∧ w'.cell? ⟨w.heap.size + 1, 1, none⟩ = some (.slice Ay2 ny2 ky2)) ∧ Below (w.heap.size + 2) wc w' := fun w' h => ⟨⟨(hp1.keep h (by omega)).facts.2.2.1, (hp1.keep h (by omega)).facts.2.2.2⟩, h⟩
            have HS0 := Lib.hid hS0
            have hR0 : w.heap.size + 2 ≤ wc.heap.size := by omega
            have HR := Lib.hid hR0
            have hS : Below (w.heap.size + 2) wc wc.drew := (Below.refl _ _).drew
            replace hp2 := hp2.drew
            replace hp3 := hp3.drew
            replace hgq := hgq.below (Below.refl _ _).drew
            replace hgr := hgr.below (Below.refl _ _).drew
            replace hgy := hgy.below (Below.refl _ _).drew
            clear hS0 hR0 hz3 hbD hp1 c10 c11 f20 f21 c20 c21 f30 f31 c30 c31
            refine wp_region_noPanic ?_
            refine wp_region_held_drew (S := (fun w' => (w'.cell? ⟨w.heap.size + 1, 0, none⟩ = some (.bool ey) ∧ w'.cell? ⟨w.heap.size + 1, 1, none⟩ = some (.slice Ay2 ny2 ky2)) ∧ Below (w.heap.size + 2) wc w')) (by kernel_rfl) ?_ (fun hHeld => ?_)
            · exact HS0.out _ (Below.refl _ _).drew
            (try dsimp only at hHeld)
            refine take_at 4 (by kernel_rfl) (by kernel_rfl) (by kernel_rfl) (fun _ _ _ _ _ h => h) ⟨_, rfl⟩ (by assumption) (fun o ho => ?_)
            simp only [List.getElem?_toArray, List.getElem?_cons_succ, List.getElem?_cons_zero, Option.some.injEq] at ho
            subst ho
            refine ⟨?_, ⟨by rfl, ?_⟩, ?_⟩
            rotate_left
            · intro w hSw
              (try dsimp only at hSw)
              (go_simp; try with_reducible rfl)
            (try simp only [Act.put, List.setIfInBounds_toArray, List.set_cons_zero, List.set_cons_succ])
            refine wpAnyH_ready (rs := [0, 1, 3]) (by kernel_rfl) (by simp) ?_
            refine ready_at 0 ⟨_, rfl⟩ (fun o ho K hK => ?_) ?_
            · simp only [List.getElem?_toArray, List.getElem?_cons_zero, Option.some.injEq] at ho
              subst ho
              obtain ⟨_, _, c20, c21⟩ := hp2.facts
              go_simp
              refine hK.out _ _ ?_ (fun hHeld2 => ?_)
              · (try dsimp only)
                (first | assumption | exact HS0.out _ hS | exact HS0.out _ (Below.refl _ _).drew | exact HS0.out _ (below_pair hS (Nat.le_refl _) _ _) | exact HS0.out _ (below_pair (below_pair hS (Nat.le_refl _) _ _) (Nat.le_succ _) _ _))
              replace hHeld := hHeld2
              clear hK K hHeld2 c20 c21
              (try dsimp only at hHeld)
              (try simp only [List.setIfInBounds_toArray, List.set_cons_zero, List.set_cons_succ])
              refine wpAnyH_ready (rs := [1, 3]) (by kernel_rfl) (by simp) ?_
              refine ready_at 1 ⟨_, rfl⟩ (fun o ho K hK => ?_) ?_
              · simp only [List.getElem?_toArray, List.getElem?_cons_succ, List.getElem?_cons_zero, Option.some.injEq] at ho
                subst ho
                go_simp
                (go_at_call 37; refine (of_i _ 1 (by omega)).mono ?_; rintro e w1 ⟨v1, rfl, hv1, hb1⟩; replace hS := on_go HR.out hS hb1; replace hp2 := hp2.below hb1; replace hp3 := hp3.below hb1; replace hgy := hgy.below hb1; replace hgq := hgq.below hb1; replace hgr := hgr.below hb1; clear hb1)
                refine hK.out _ _ ?_ (fun hHeld2 => ?_)
                · (try dsimp only)
                  (first | assumption | exact HS0.out _ hS | exact HS0.out _ (Below.refl _ _).drew | exact HS0.out _ (below_pair hS (Nat.le_refl _) _ _) | exact HS0.out _ (below_pair (below_pair hS (Nat.le_refl _) _ _) (Nat.le_succ _) _ _))
                replace hHeld := hHeld2
                clear hK K hHeld2
                (try dsimp only at hHeld)
                (try simp only [List.setIfInBounds_toArray, List.set_cons_zero, List.set_cons_succ])
                refine wpAnyH_ready (rs := [2, 3]) (by kernel_rfl) (by simp) ?_
                refine ready_at 2 ⟨_, rfl⟩ (fun o ho K hK => ?_) ?_
                · simp only [List.getElem?_toArray, List.getElem?_cons_succ, List.getElem?_cons_zero, Option.some.injEq] at ho
                  subst ho
                  go_simp
                  (go_at_call 26; refine (sub_w (iv_of HDQ hgq) hv1.iv (by omega)).mono ?_; rintro e w2 ⟨v2, rfl, hv2, hb2, hn4⟩; have HN4 := Lib.hid (hn4.le (base' := w.heap.size) (Nat.le_trans hbw.size hS.size)); clear hn4; rw [← E1.out] at hv2; obtain ⟨d4, A4, n4, k4, rfl, HD4, hg4⟩ := hv2.form; replace hS := on_go HR.out hS hb2; replace hp2 := hp2.below hb2; replace hp3 := hp3.below hb2; replace hgy := hgy.below hb2; replace hgr := hgr.below hb2; clear hv1 hv2 hgq hb2)
                  refine hK.out _ _ ?_ (fun hHeld2 => ?_)
                  · (try dsimp only)
                    (first | assumption | exact HS0.out _ hS | exact HS0.out _ (Below.refl _ _).drew | exact HS0.out _ (below_pair hS (Nat.le_refl _) _ _) | exact HS0.out _ (below_pair (below_pair hS (Nat.le_refl _) _ _) (Nat.le_succ _) _ _))
                  replace hHeld := hHeld2
                  clear hK K hHeld2
                  (try dsimp only at hHeld)
                  (try simp only [List.setIfInBounds_toArray, List.set_cons_zero, List.set_cons_succ])
                  refine wpAnyH_ready (rs := [3]) (by kernel_rfl) (by simp) ?_
                  refine ready_at 3 ⟨_, rfl⟩ (fun o ho K hK => ?_) ?_
                  · simp only [List.getElem?_toArray, List.getElem?_cons_succ, List.getElem?_cons_zero, Option.some.injEq] at ho
                    subst ho
                    obtain ⟨_, _, c30, c31⟩ := hp3.facts
                    go_simp
                    refine hK.out _ _ ?_ (fun hHeld2 => ?_)
                    · (try dsimp only)
                      (first | assumption | exact HS0.out _ hS | exact HS0.out _ (Below.refl _ _).drew | exact HS0.out _ (below_pair hS (Nat.le_refl _) _ _) | exact HS0.out _ (below_pair (below_pair hS (Nat.le_refl _) _ _) (Nat.le_succ _) _ _))
                    replace hHeld := hHeld2
                    clear hK K hHeld2 c30 c31
                    (try dsimp only at hHeld)
                    (try simp only [List.setIfInBounds_toArray, List.set_cons_zero, List.set_cons_succ])
                    refine wpAnyH_ready (rs := [5]) (by kernel_rfl) (by simp) ?_
                    refine ready_at 5 ⟨_, rfl⟩ (fun o ho K hK => ?_) ?_
                    · simp only [List.getElem?_toArray, List.getElem?_cons_succ, List.getElem?_cons_zero, Option.some.injEq] at ho
                      subst ho
                      go_simp
                      (go_at_call 23; refine (add_n (iv_of HDR hgr) (iv_of HDY hgy) (by omega)).mono ?_; rintro e w3 ⟨v3, rfl, hv3, hb3, hn5⟩; have HSQ := Lib.hid (HN4.out.sep hn5); have HN5 := Lib.hid (hn5.le (base' := w.heap.size) (Nat.le_trans hbw.size hS.size)); clear hn5; replace HN4 := Lib.hid (HN4.out.below hb3); rw [← E2.out] at hv3; obtain ⟨d5, A5, n5, k5, rfl, HD5, hg5⟩ := hv3.form; replace hS := on_go HR.out hS hb3; replace hg4 := hg4.below hb3; replace hp2 := hp2.below hb3; replace hp3 := hp3.below hb3; clear hv3 hgr hgy hb3)
                      refine hK.out _ _ ?_ (fun hHeld2 => ?_)
                      · (try dsimp only)
                        (first | assumption | exact HS0.out _ hS | exact HS0.out _ (Below.refl _ _).drew | exact HS0.out _ (below_pair hS (Nat.le_refl _) _ _) | exact HS0.out _ (below_pair (below_pair hS (Nat.le_refl _) _ _) (Nat.le_succ _) _ _))
                      replace hHeld := hHeld2
                      clear hK K hHeld2
                      (try dsimp only at hHeld)
                      (try simp only [List.setIfInBounds_toArray, List.set_cons_zero, List.set_cons_succ])
                      refine wpAnyH_ready (rs := [6]) (by kernel_rfl) (by simp) ?_
                      refine ready_at 6 ⟨_, rfl⟩ (fun o ho K hK => ?_) ?_
                      · simp only [List.getElem?_toArray, List.getElem?_cons_succ, List.getElem?_cons_zero, Option.some.injEq] at ho
                        subst ho
                        obtain ⟨f20, f21, c20, c21⟩ := hp2.facts
                        go_simp
                        refine hK.out _ _ ?_ (fun hHeld2 => ?_)
                        · (try dsimp only)
                          (first | assumption | exact HS0.out _ hS | exact HS0.out _ (Below.refl _ _).drew | exact HS0.out _ (below_pair hS (Nat.le_refl _) _ _) | exact HS0.out _ (below_pair (below_pair hS (Nat.le_refl _) _ _) (Nat.le_succ _) _ _))
                        replace hHeld := hHeld2
                        clear hK K hHeld2 f20 f21 c20 c21
                        (try dsimp only at hHeld)
                        (try simp only [List.setIfInBounds_toArray, List.set_cons_zero, List.set_cons_succ])
                        refine wpAnyH_ready (rs := [7]) (by kernel_rfl) (by simp) ?_
                        refine ready_at 7 ⟨_, rfl⟩ (fun o ho K hK => ?_) ?_
                        · simp only [List.getElem?_toArray, List.getElem?_cons_succ, List.getElem?_cons_zero, Option.some.injEq] at ho
                          subst ho
                          obtain ⟨f30, f31, c30, c31⟩ := (hp3.far (b' := w.heap.size + 1 + 1) (by omega) (.bool d4) (.slice A4 n4 k4)).facts
                          go_simp
                          refine hK.out _ _ ?_ (fun hHeld2 => ?_)
                          · (try dsimp only)
                            (first | assumption | exact HS0.out _ hS | exact HS0.out _ (Below.refl _ _).drew | exact HS0.out _ (below_pair hS (Nat.le_refl _) _ _) | exact HS0.out _ (below_pair (below_pair hS (Nat.le_refl _) _ _) (Nat.le_succ _) _ _))
                          replace hHeld := hHeld2
                          clear hK K hHeld2 f30 f31 c30 c31
                          (try dsimp only at hHeld)
                          (try simp only [List.setIfInBounds_toArray, List.set_cons_zero, List.set_cons_succ])
                          refine wpAnyH_done (by kernel_rfl) ?_ _
                          refine NoPanic.normal ?_
                          go_wp2_with fail
                          go_meet
                          case rel => exact ⟨AtT.of ((hp2.set _ _).far (by omega) _ _) HD4 (((hg4.le (by omega)).pair hp2 _ _).pair (hp3.far (by omega) _ _) _ _) ((HN4.out.pair hp2 _ _).pair (hp3.far (by omega) _ _) _ _) ((hp3.far (by omega) _ _).set _ _) HD5 (((hg5.le (by omega)).pair hp2 _ _).pair (hp3.far (by omega) _ _) _ _) ((HN5.out.pair hp2 _ _).pair (hp3.far (by omega) _ _) _ _) HSQ, below_pair (below_pair (hbw.trans (hS.mono (by omega))) (by omega) _ _) (by omega) _ _⟩
                        exact AllReadyH.nil
                      exact AllReadyH.nil
                    exact AllReadyH.nil
                  exact AllReadyH.nil
                refine ready_at 3 ⟨_, rfl⟩ (fun o ho K hK => ?_) ?_
                · simp only [List.getElem?_toArray, List.getElem?_cons_succ, List.getElem?_cons_zero, Option.some.injEq] at ho
                  subst ho
                  obtain ⟨_, _, c30, c31⟩ := hp3.facts
                  go_simp
                  refine hK.out _ _ ?_ (fun hHeld2 => ?_)
                  · (try dsimp only)
                    (first | assumption | exact HS0.out _ hS | exact HS0.out _ (Below.refl _ _).drew | exact HS0.out _ (below_pair hS (Nat.le_refl _) _ _) | exact HS0.out _ (below_pair (below_pair hS (Nat.le_refl _) _ _) (Nat.le_succ _) _ _))
                  replace hHeld := hHeld2
                  clear hK K hHeld2 c30 c31
                  (try dsimp only at hHeld)
                  (try simp only [List.setIfInBounds_toArray, List.set_cons_zero, List.set_cons_succ])
                  refine wpAnyH_ready (rs := [2]) (by kernel_rfl) (by simp) ?_
                  refine ready_at 2 ⟨_, rfl⟩ (fun o ho K hK => ?_) ?_
                  · simp only [List.getElem?_toArray, List.getElem?_cons_succ, List.getElem?_cons_zero, Option.some.injEq] at ho
                    subst ho
                    go_simp
                    (go_at_call 26; refine (sub_w (iv_of HDQ hgq) hv1.iv (by omega)).mono ?_; rintro e w2 ⟨v2, rfl, hv2, hb2, hn4⟩; have HN4 := Lib.hid (hn4.le (base' := w.heap.size) (Nat.le_trans hbw.size hS.size)); clear hn4; rw [← E1.out] at hv2; obtain ⟨d4, A4, n4, k4, rfl, HD4, hg4⟩ := hv2.form; replace hS := on_go HR.out hS hb2; replace hp2 := hp2.below hb2; replace hp3 := hp3.below hb2; replace hgy := hgy.below hb2; replace hgr := hgr.below hb2; clear hv1 hv2 hgq hb2)
                    refine hK.out _ _ ?_ (fun hHeld2 => ?_)
                    · (try dsimp only)
                      (first | assumption | exact HS0.out _ hS | exact HS0.out _ (Below.refl _ _).drew | exact HS0.out _ (below_pair hS (Nat.le_refl _) _ _) | exact HS0.out _ (below_pair (below_pair hS (Nat.le_refl _) _ _) (Nat.le_succ _) _ _))
                    replace hHeld := hHeld2
                    clear hK K hHeld2
                    (try dsimp only at hHeld)
                    (try simp only [List.setIfInBounds_toArray, List.set_cons_zero, List.set_cons_succ])
                    refine wpAnyH_ready (rs := [5]) (by kernel_rfl) (by simp) ?_
                    refine ready_at 5 ⟨_, rfl⟩ (fun o ho K hK => ?_) ?_
                    · simp only [List.getElem?_toArray, List.getElem?_cons_succ, List.getElem?_cons_zero, Option.some.injEq] at ho
                      subst ho
                      go_simp
                      (go_at_call 23; refine (add_n (iv_of HDR hgr) (iv_of HDY hgy) (by omega)).mono ?_; rintro e w3 ⟨v3, rfl, hv3, hb3, hn5⟩; have HSQ := Lib.hid (HN4.out.sep hn5); have HN5 := Lib.hid (hn5.le (base' := w.heap.size) (Nat.le_trans hbw.size hS.size)); clear hn5; replace HN4 := Lib.hid (HN4.out.below hb3); rw [← E2.out] at hv3; obtain ⟨d5, A5, n5, k5, rfl, HD5, hg5⟩ := hv3.form; replace hS := on_go HR.out hS hb3; replace hg4 := hg4.below hb3; replace hp2 := hp2.below hb3; replace hp3 := hp3.below hb3; clear hv3 hgr hgy hb3)
                      refine hK.out _ _ ?_ (fun hHeld2 => ?_)
                      · (try dsimp only)
                        (first | assumption | exact HS0.out _ hS | exact HS0.out _ (Below.refl _ _).drew | exact HS0.out _ (below_pair hS (Nat.le_refl _) _ _) | exact HS0.out _ (below_pair (below_pair hS (Nat.le_refl _) _ _) (Nat.le_succ _) _ _))
                      replace hHeld := hHeld2
                      clear hK K hHeld2
                      (try dsimp only at hHeld)
                      (try simp only [List.setIfInBounds_toArray, List.set_cons_zero, List.set_cons_succ])
                      refine wpAnyH_ready (rs := [6]) (by kernel_rfl) (by simp) ?_
                      refine ready_at 6 ⟨_, rfl⟩ (fun o ho K hK => ?_) ?_
                      · simp only [List.getElem?_toArray, List.getElem?_cons_succ, List.getElem?_cons_zero, Option.some.injEq] at ho
                        subst ho
                        obtain ⟨f20, f21, c20, c21⟩ := hp2.facts
                        go_simp
                        refine hK.out _ _ ?_ (fun hHeld2 => ?_)
                        · (try dsimp only)
                          (first | assumption | exact HS0.out _ hS | exact HS0.out _ (Below.refl _ _).drew | exact HS0.out _ (below_pair hS (Nat.le_refl _) _ _) | exact HS0.out _ (below_pair (below_pair hS (Nat.le_refl _) _ _) (Nat.le_succ _) _ _))
                        replace hHeld := hHeld2
                        clear hK K hHeld2 f20 f21 c20 c21
                        (try dsimp only at hHeld)
                        (try simp only [List.setIfInBounds_toArray, List.set_cons_zero, List.set_cons_succ])
                        refine wpAnyH_ready (rs := [7]) (by kernel_rfl) (by simp) ?_
                        refine ready_at 7 ⟨_, rfl⟩ (fun o ho K hK => ?_) ?_
                        · simp only [List.getElem?_toArray, List.getElem?_cons_succ, List.getElem?_cons_zero, Option.some.injEq] at ho
                          subst ho
                          obtain ⟨f30, f31, c30, c31⟩ := (hp3.far (b' := w.heap.size + 1 + 1) (by omega) (.bool d4) (.slice A4 n4 k4)).facts
                          go_simp
                          refine hK.out _ _ ?_ (fun hHeld2 => ?_)
                          · (try dsimp only)
                            (first | assumption | exact HS0.out _ hS | exact HS0.out _ (Below.refl _ _).drew | exact HS0.out _ (below_pair hS (Nat.le_refl _) _ _) | exact HS0.out _ (below_pair (below_pair hS (Nat.le_refl _) _ _) (Nat.le_succ _) _ _))
                          replace hHeld := hHeld2
                          clear hK K hHeld2 f30 f31 c30 c31
                          (try dsimp only at hHeld)
                          (try simp only [List.setIfInBounds_toArray, List.set_cons_zero, List.set_cons_succ])
                          refine wpAnyH_done (by kernel_rfl) ?_ _
                          refine NoPanic.normal ?_
                          go_wp2_with fail
                          go_meet
                          case rel => exact ⟨AtT.of ((hp2.set _ _).far (by omega) _ _) HD4 (((hg4.le (by omega)).pair hp2 _ _).pair (hp3.far (by omega) _ _) _ _) ((HN4.out.pair hp2 _ _).pair (hp3.far (by omega) _ _) _ _) ((hp3.far (by omega) _ _).set _ _) HD5 (((hg5.le (by omega)).pair hp2 _ _).pair (hp3.far (by omega) _ _) _ _) ((HN5.out.pair hp2 _ _).pair (hp3.far (by omega) _ _) _ _) HSQ, below_pair (below_pair (hbw.trans (hS.mono (by omega))) (by omega) _ _) (by omega) _ _⟩
                        exact AllReadyH.nil
                      exact AllReadyH.nil
                    exact AllReadyH.nil
                  exact AllReadyH.nil
                exact AllReadyH.nil
              refine ready_at 3 ⟨_, rfl⟩ (fun o ho K hK => ?_) ?_
              · simp only [List.getElem?_toArray, List.getElem?_cons_succ, List.getElem?_cons_zero, Option.some.injEq] at ho
                subst ho
                obtain ⟨_, _, c30, c31⟩ := hp3.facts
                go_simp
                refine hK.out _ _ ?_ (fun hHeld2 => ?_)
                · (try dsimp only)
                  (first | assumption | exact HS0.out _ hS | exact HS0.out _ (Below.refl _ _).drew | exact HS0.out _ (below_pair hS (Nat.le_refl _) _ _) | exact HS0.out _ (below_pair (below_pair hS (Nat.le_refl _) _ _) (Nat.le_succ _) _ _))
                replace hHeld := hHeld2
                clear hK K hHeld2 c30 c31
                (try dsimp only at hHeld)
                (try simp only [List.setIfInBounds_toArray, List.set_cons_zero, List.set_cons_succ])
                refine wpAnyH_ready (rs := [1]) (by kernel_rfl) (by simp) ?_
                refine ready_at 1 ⟨_, rfl⟩ (fun o ho K hK => ?_) ?_
                · simp only [List.getElem?_toArray, List.getElem?_cons_succ, List.getElem?_cons_zero, Option.some.injEq] at ho
                  subst ho
                  go_simp
                  (go_at_call 37; refine (of_i _ 1 (by omega)).mono ?_; rintro e w1 ⟨v1, rfl, hv1, hb1⟩; replace hS := on_go HR.out hS hb1; replace hp2 := hp2.below hb1; replace hp3 := hp3.below hb1; replace hgy := hgy.below hb1; replace hgq := hgq.below hb1; replace hgr := hgr.below hb1; clear hb1)
                  refine hK.out _ _ ?_ (fun hHeld2 => ?_)
                  · (try dsimp only)
                    (first | assumption | exact HS0.out _ hS | exact HS0.out _ (Below.refl _ _).drew | exact HS0.out _ (below_pair hS (Nat.le_refl _) _ _) | exact HS0.out _ (below_pair (below_pair hS (Nat.le_refl _) _ _) (Nat.le_succ _) _ _))
                  replace hHeld := hHeld2
                  clear hK K hHeld2
                  (try dsimp only at hHeld)
                  (try simp only [List.setIfInBounds_toArray, List.set_cons_zero, List.set_cons_succ])
                  refine wpAnyH_ready (rs := [2]) (by kernel_rfl) (by simp) ?_
                  refine ready_at 2 ⟨_, rfl⟩ (fun o ho K hK => ?_) ?_
                  · simp only [List.getElem?_toArray, List.getElem?_cons_succ, List.getElem?_cons_zero, Option.some.injEq] at ho
                    subst ho
                    go_simp
                    (go_at_call 26; refine (sub_w (iv_of HDQ hgq) hv1.iv (by omega)).mono ?_; rintro e w2 ⟨v2, rfl, hv2, hb2, hn4⟩; have HN4 := Lib.hid (hn4.le (base' := w.heap.size) (Nat.le_trans hbw.size hS.size)); clear hn4; rw [← E1.out] at hv2; obtain ⟨d4, A4, n4, k4, rfl, HD4, hg4⟩ := hv2.form; replace hS := on_go HR.out hS hb2; replace hp2 := hp2.below hb2; replace hp3 := hp3.below hb2; replace hgy := hgy.below hb2; replace hgr := hgr.below hb2; clear hv1 hv2 hgq hb2)
                    refine hK.out _ _ ?_ (fun hHeld2 => ?_)
                    · (try dsimp only)
                      (first | assumption | exact HS0.out _ hS | exact HS0.out _ (Below.refl _ _).drew | exact HS0.out _ (below_pair hS (Nat.le_refl _) _ _) | exact HS0.out _ (below_pair (below_pair hS (Nat.le_refl _) _ _) (Nat.le_succ _) _ _))
                    replace hHeld := hHeld2
                    clear hK K hHeld2
                    (try dsimp only at hHeld)
                    (try simp only [List.setIfInBounds_toArray, List.set_cons_zero, List.set_cons_succ])
                    refine wpAnyH_ready (rs := [5]) (by kernel_rfl) (by simp) ?_
                    refine ready_at 5 ⟨_, rfl⟩ (fun o ho K hK => ?_) ?_
                    · simp only [List.getElem?_toArray, List.getElem?_cons_succ, List.getElem?_cons_zero, Option.some.injEq] at ho
                      subst ho
                      go_simp
                      (go_at_call 23; refine (add_n (iv_of HDR hgr) (iv_of HDY hgy) (by omega)).mono ?_; rintro e w3 ⟨v3, rfl, hv3, hb3, hn5⟩; have HSQ := Lib.hid (HN4.out.sep hn5); have HN5 := Lib.hid (hn5.le (base' := w.heap.size) (Nat.le_trans hbw.size hS.size)); clear hn5; replace HN4 := Lib.hid (HN4.out.below hb3); rw [← E2.out] at hv3; obtain ⟨d5, A5, n5, k5, rfl, HD5, hg5⟩ := hv3.form; replace hS := on_go HR.out hS hb3; replace hg4 := hg4.below hb3; replace hp2 := hp2.below hb3; replace hp3 := hp3.below hb3; clear hv3 hgr hgy hb3)
                      refine hK.out _ _ ?_ (fun hHeld2 => ?_)
                      · (try dsimp only)
                        (first | assumption | exact HS0.out _ hS | exact HS0.out _ (Below.refl _ _).drew | exact HS0.out _ (below_pair hS (Nat.le_refl _) _ _) | exact HS0.out _ (below_pair (below_pair hS (Nat.le_refl _) _ _) (Nat.le_succ _) _ _))
                      replace hHeld := hHeld2
                      clear hK K hHeld2
                      (try dsimp only at hHeld)
                      (try simp only [List.setIfInBounds_toArray, List.set_cons_zero, List.set_cons_succ])
                      refine wpAnyH_ready (rs := [6]) (by kernel_rfl) (by simp) ?_
                      refine ready_at 6 ⟨_, rfl⟩ (fun o ho K hK => ?_) ?_
                      · simp only [List.getElem?_toArray, List.getElem?_cons_succ, List.getElem?_cons_zero, Option.some.injEq] at ho
                        subst ho
                        obtain ⟨f20, f21, c20, c21⟩ := hp2.facts
                        go_simp
                        refine hK.out _ _ ?_ (fun hHeld2 => ?_)
                        · (try dsimp only)
                          (first | assumption | exact HS0.out _ hS | exact HS0.out _ (Below.refl _ _).drew | exact HS0.out _ (below_pair hS (Nat.le_refl _) _ _) | exact HS0.out _ (below_pair (below_pair hS (Nat.le_refl _) _ _) (Nat.le_succ _) _ _))
                        replace hHeld := hHeld2
                        clear hK K hHeld2 f20 f21 c20 c21
                        (try dsimp only at hHeld)
                        (try simp only [List.setIfInBounds_toArray, List.set_cons_zero, List.set_cons_succ])
                        refine wpAnyH_ready (rs := [7]) (by kernel_rfl) (by simp) ?_
                        refine ready_at 7 ⟨_, rfl⟩ (fun o ho K hK => ?_) ?_
                        · simp only [List.getElem?_toArray, List.getElem?_cons_succ, List.getElem?_cons_zero, Option.some.injEq] at ho
                          subst ho
                          obtain ⟨f30, f31, c30, c31⟩ := (hp3.far (b' := w.heap.size + 1 + 1) (by omega) (.bool d4) (.slice A4 n4 k4)).facts
                          go_simp
                          refine hK.out _ _ ?_ (fun hHeld2 => ?_)
                          · (try dsimp only)
                            (first | assumption | exact HS0.out _ hS | exact HS0.out _ (Below.refl _ _).drew | exact HS0.out _ (below_pair hS (Nat.le_refl _) _ _) | exact HS0.out _ (below_pair (below_pair hS (Nat.le_refl _) _ _) (Nat.le_succ _) _ _))
                          replace hHeld := hHeld2
                          clear hK K hHeld2 f30 f31 c30 c31
                          (try dsimp only at hHeld)
                          (try simp only [List.setIfInBounds_toArray, List.set_cons_zero, List.set_cons_succ])
                          refine wpAnyH_done (by kernel_rfl) ?_ _
                          refine NoPanic.normal ?_
                          go_wp2_with fail
                          go_meet
                          case rel => exact ⟨AtT.of ((hp2.set _ _).far (by omega) _ _) HD4 (((hg4.le (by omega)).pair hp2 _ _).pair (hp3.far (by omega) _ _) _ _) ((HN4.out.pair hp2 _ _).pair (hp3.far (by omega) _ _) _ _) ((hp3.far (by omega) _ _).set _ _) HD5 (((hg5.le (by omega)).pair hp2 _ _).pair (hp3.far (by omega) _ _) _ _) ((HN5.out.pair hp2 _ _).pair (hp3.far (by omega) _ _) _ _) HSQ, below_pair (below_pair (hbw.trans (hS.mono (by omega))) (by omega) _ _) (by omega) _ _⟩
                        exact AllReadyH.nil
                      exact AllReadyH.nil
                    exact AllReadyH.nil
                  exact AllReadyH.nil
                exact AllReadyH.nil
              exact AllReadyH.nil
            refine ready_at 1 ⟨_, rfl⟩ (fun o ho K hK => ?_) ?_
            · simp only [List.getElem?_toArray, List.getElem?_cons_succ, List.getElem?_cons_zero, Option.some.injEq] at ho
              subst ho
              go_simp
              (go_at_call 37; refine (of_i _ 1 (by omega)).mono ?_; rintro e w1 ⟨v1, rfl, hv1, hb1⟩; replace hS := on_go HR.out hS hb1; replace hp2 := hp2.below hb1; replace hp3 := hp3.below hb1; replace hgy := hgy.below hb1; replace hgq := hgq.below hb1; replace hgr := hgr.below hb1; clear hb1)
              refine hK.out _ _ ?_ (fun hHeld2 => ?_)
              · (try dsimp only)
                (first | assumption | exact HS0.out _ hS | exact HS0.out _ (Below.refl _ _).drew | exact HS0.out _ (below_pair hS (Nat.le_refl _) _ _) | exact HS0.out _ (below_pair (below_pair hS (Nat.le_refl _) _ _) (Nat.le_succ _) _ _))
              replace hHeld := hHeld2
              clear hK K hHeld2
              (try dsimp only at hHeld)
              (try simp only [List.setIfInBounds_toArray, List.set_cons_zero, List.set_cons_succ])
              refine wpAnyH_ready (rs := [0, 3]) (by kernel_rfl) (by simp) ?_
              refine ready_at 0 ⟨_, rfl⟩ (fun o ho K hK => ?_) ?_
              · simp only [List.getElem?_toArray, List.getElem?_cons_zero, Option.some.injEq] at ho
                subst ho
                obtain ⟨_, _, c20, c21⟩ := hp2.facts
                go_simp
                refine hK.out _ _ ?_ (fun hHeld2 => ?_)
                · (try dsimp only)
                  (first | assumption | exact HS0.out _ hS | exact HS0.out _ (Below.refl _ _).drew | exact HS0.out _ (below_pair hS (Nat.le_refl _) _ _) | exact HS0.out _ (below_pair (below_pair hS (Nat.le_refl _) _ _) (Nat.le_succ _) _ _))
                replace hHeld := hHeld2
                clear hK K hHeld2 c20 c21
                (try dsimp only at hHeld)
                (try simp only [List.setIfInBounds_toArray, List.set_cons_zero, List.set_cons_succ])
                refine wpAnyH_ready (rs := [2, 3]) (by kernel_rfl) (by simp) ?_
                refine ready_at 2 ⟨_, rfl⟩ (fun o ho K hK => ?_) ?_
                · simp only [List.getElem?_toArray, List.getElem?_cons_succ, List.getElem?_cons_zero, Option.some.injEq] at ho
                  subst ho
                  go_simp
                  (go_at_call 26; refine (sub_w (iv_of HDQ hgq) hv1.iv (by omega)).mono ?_; rintro e w2 ⟨v2, rfl, hv2, hb2, hn4⟩; have HN4 := Lib.hid (hn4.le (base' := w.heap.size) (Nat.le_trans hbw.size hS.size)); clear hn4; rw [← E1.out] at hv2; obtain ⟨d4, A4, n4, k4, rfl, HD4, hg4⟩ := hv2.form; replace hS := on_go HR.out hS hb2; replace hp2 := hp2.below hb2; replace hp3 := hp3.below hb2; replace hgy := hgy.below hb2; replace hgr := hgr.below hb2; clear hv1 hv2 hgq hb2)
                  refine hK.out _ _ ?_ (fun hHeld2 => ?_)
                  · (try dsimp only)
                    (first | assumption | exact HS0.out _ hS | exact HS0.out _ (Below.refl _ _).drew | exact HS0.out _ (below_pair hS (Nat.le_refl _) _ _) | exact HS0.out _ (below_pair (below_pair hS (Nat.le_refl _) _ _) (Nat.le_succ _) _ _))
                  replace hHeld := hHeld2
                  clear hK K hHeld2
                  (try dsimp only at hHeld)
                  (try simp only [List.setIfInBounds_toArray, List.set_cons_zero, List.set_cons_succ])
                  refine wpAnyH_ready (rs := [3]) (by kernel_rfl) (by simp) ?_
                  refine ready_at 3 ⟨_, rfl⟩ (fun o ho K hK => ?_) ?_
                  · simp only [List.getElem?_toArray, List.getElem?_cons_succ, List.getElem?_cons_zero, Option.some.injEq] at ho
                    subst ho
                    obtain ⟨_, _, c30, c31⟩ := hp3.facts
                    go_simp
                    refine hK.out _ _ ?_ (fun hHeld2 => ?_)
                    · (try dsimp only)
                      (first | assumption | exact HS0.out _ hS | exact HS0.out _ (Below.refl _ _).drew | exact HS0.out _ (below_pair hS (Nat.le_refl _) _ _) | exact HS0.out _ (below_pair (below_pair hS (Nat.le_refl _) _ _) (Nat.le_succ _) _ _))
                    replace hHeld := hHeld2
                    clear hK K hHeld2 c30 c31
                    (try dsimp only at hHeld)
                    (try simp only [List.setIfInBounds_toArray, List.set_cons_zero, List.set_cons_succ])
                    refine wpAnyH_ready (rs := [5]) (by kernel_rfl) (by simp) ?_
                    refine ready_at 5 ⟨_, rfl⟩ (fun o ho K hK => ?_) ?_
                    · simp only [List.getElem?_toArray, List.getElem?_cons_succ, List.getElem?_cons_zero, Option.some.injEq] at ho
                      subst ho
                      go_simp
                      (go_at_call 23; refine (add_n (iv_of HDR hgr) (iv_of HDY hgy) (by omega)).mono ?_; rintro e w3 ⟨v3, rfl, hv3, hb3, hn5⟩; have HSQ := Lib.hid (HN4.out.sep hn5); have HN5 := Lib.hid (hn5.le (base' := w.heap.size) (Nat.le_trans hbw.size hS.size)); clear hn5; replace HN4 := Lib.hid (HN4.out.below hb3); rw [← E2.out] at hv3; obtain ⟨d5, A5, n5, k5, rfl, HD5, hg5⟩ := hv3.form; replace hS := on_go HR.out hS hb3; replace hg4 := hg4.below hb3; replace hp2 := hp2.below hb3; replace hp3 := hp3.below hb3; clear hv3 hgr hgy hb3)
                      refine hK.out _ _ ?_ (fun hHeld2 => ?_)
                      · (try dsimp only)
                        (first | assumption | exact HS0.out _ hS | exact HS0.out _ (Below.refl _ _).drew | exact HS0.out _ (below_pair hS (Nat.le_refl _) _ _) | exact HS0.out _ (below_pair (below_pair hS (Nat.le_refl _) _ _) (Nat.le_succ _) _ _))
                      replace hHeld := hHeld2
                      clear hK K hHeld2
                      (try dsimp only at hHeld)
                      (try simp only [List.setIfInBounds_toArray, List.set_cons_zero, List.set_cons_succ])
                      refine wpAnyH_ready (rs := [6]) (by kernel_rfl) (by simp) ?_
                      refine ready_at 6 ⟨_, rfl⟩ (fun o ho K hK => ?_) ?_
                      · simp only [List.getElem?_toArray, List.getElem?_cons_succ, List.getElem?_cons_zero, Option.some.injEq] at ho
                        subst ho
                        obtain ⟨f20, f21, c20, c21⟩ := hp2.facts
                        go_simp
                        refine hK.out _ _ ?_ (fun hHeld2 => ?_)
                        · (try dsimp only)
                          (first | assumption | exact HS0.out _ hS | exact HS0.out _ (Below.refl _ _).drew | exact HS0.out _ (below_pair hS (Nat.le_refl _) _ _) | exact HS0.out _ (below_pair (below_pair hS (Nat.le_refl _) _ _) (Nat.le_succ _) _ _))
                        replace hHeld := hHeld2
                        clear hK K hHeld2 f20 f21 c20 c21
                        (try dsimp only at hHeld)
                        (try simp only [List.setIfInBounds_toArray, List.set_cons_zero, List.set_cons_succ])
                        refine wpAnyH_ready (rs := [7]) (by kernel_rfl) (by simp) ?_
                        refine ready_at 7 ⟨_, rfl⟩ (fun o ho K hK => ?_) ?_
                        · simp only [List.getElem?_toArray, List.getElem?_cons_succ, List.getElem?_cons_zero, Option.some.injEq] at ho
                          subst ho
                          obtain ⟨f30, f31, c30, c31⟩ := (hp3.far (b' := w.heap.size + 1 + 1) (by omega) (.bool d4) (.slice A4 n4 k4)).facts
                          go_simp
                          refine hK.out _ _ ?_ (fun hHeld2 => ?_)
                          · (try dsimp only)
                            (first | assumption | exact HS0.out _ hS | exact HS0.out _ (Below.refl _ _).drew | exact HS0.out _ (below_pair hS (Nat.le_refl _) _ _) | exact HS0.out _ (below_pair (below_pair hS (Nat.le_refl _) _ _) (Nat.le_succ _) _ _))
                          replace hHeld := hHeld2
                          clear hK K hHeld2 f30 f31 c30 c31
                          (try dsimp only at hHeld)
                          (try simp only [List.setIfInBounds_toArray, List.set_cons_zero, List.set_cons_succ])
                          refine wpAnyH_done (by kernel_rfl) ?_ _
                          refine NoPanic.normal ?_
                          go_wp2_with fail
                          go_meet
                          case rel => exact ⟨AtT.of ((hp2.set _ _).far (by omega) _ _) HD4 (((hg4.le (by omega)).pair hp2 _ _).pair (hp3.far (by omega) _ _) _ _) ((HN4.out.pair hp2 _ _).pair (hp3.far (by omega) _ _) _ _) ((hp3.far (by omega) _ _).set _ _) HD5 (((hg5.le (by omega)).pair hp2 _ _).pair (hp3.far (by omega) _ _) _ _) ((HN5.out.pair hp2 _ _).pair (hp3.far (by omega) _ _) _ _) HSQ, below_pair (below_pair (hbw.trans (hS.mono (by omega))) (by omega) _ _) (by omega) _ _⟩
                        exact AllReadyH.nil
                      exact AllReadyH.nil
                    exact AllReadyH.nil
                  exact AllReadyH.nil
                refine ready_at 3 ⟨_, rfl⟩ (fun o ho K hK => ?_) ?_
                · simp only [List.getElem?_toArray, List.getElem?_cons_succ, List.getElem?_cons_zero, Option.some.injEq] at ho
                  subst ho
                  obtain ⟨_, _, c30, c31⟩ := hp3.facts
                  go_simp
                  refine hK.out _ _ ?_ (fun hHeld2 => ?_)
                  · (try dsimp only)
                    (first | assumption | exact HS0.out _ hS | exact HS0.out _ (Below.refl _ _).drew | exact HS0.out _ (below_pair hS (Nat.le_refl _) _ _) | exact HS0.out _ (below_pair (below_pair hS (Nat.le_refl _) _ _) (Nat.le_succ _) _ _))
                  replace hHeld := hHeld2
                  clear hK K hHeld2 c30 c31
                  (try dsimp only at hHeld)
                  (try simp only [List.setIfInBounds_toArray, List.set_cons_zero, List.set_cons_succ])
                  refine wpAnyH_ready (rs := [2]) (by kernel_rfl) (by simp) ?_
                  refine ready_at 2 ⟨_, rfl⟩ (fun o ho K hK => ?_) ?_
                  · simp only [List.getElem?_toArray, List.getElem?_cons_succ, List.getElem?_cons_zero, Option.some.injEq] at ho
                    subst ho
                    go_simp
                    (go_at_call 26; refine (sub_w (iv_of HDQ hgq) hv1.iv (by omega)).mono ?_; rintro e w2 ⟨v2, rfl, hv2, hb2, hn4⟩; have HN4 := Lib.hid (hn4.le (base' := w.heap.size) (Nat.le_trans hbw.size hS.size)); clear hn4; rw [← E1.out] at hv2; obtain ⟨d4, A4, n4, k4, rfl, HD4, hg4⟩ := hv2.form; replace hS := on_go HR.out hS hb2; replace hp2 := hp2.below hb2; replace hp3 := hp3.below hb2; replace hgy := hgy.below hb2; replace hgr := hgr.below hb2; clear hv1 hv2 hgq hb2)
                    refine hK.out _ _ ?_ (fun hHeld2 => ?_)
                    · (try dsimp only)
                      (first | assumption | exact HS0.out _ hS | exact HS0.out _ (Below.refl _ _).drew | exact HS0.out _ (below_pair hS (Nat.le_refl _) _ _) | exact HS0.out _ (below_pair (below_pair hS (Nat.le_refl _) _ _) (Nat.le_succ _) _ _))
                    replace hHeld := hHeld2
                    clear hK K hHeld2
                    (try dsimp only at hHeld)
                    (try simp only [List.setIfInBounds_toArray, List.set_cons_zero, List.set_cons_succ])
                    refine wpAnyH_ready (rs := [5]) (by kernel_rfl) (by simp) ?_
                    refine ready_at 5 ⟨_, rfl⟩ (fun o ho K hK => ?_) ?_
                    · simp only [List.getElem?_toArray, List.getElem?_cons_succ, List.getElem?_cons_zero, Option.some.injEq] at ho
                      subst ho
                      go_simp
                      (go_at_call 23; refine (add_n (iv_of HDR hgr) (iv_of HDY hgy) (by omega)).mono ?_; rintro e w3 ⟨v3, rfl, hv3, hb3, hn5⟩; have HSQ := Lib.hid (HN4.out.sep hn5); have HN5 := Lib.hid (hn5.le (base' := w.heap.size) (Nat.le_trans hbw.size hS.size)); clear hn5; replace HN4 := Lib.hid (HN4.out.below hb3); rw [← E2.out] at hv3; obtain ⟨d5, A5, n5, k5, rfl, HD5, hg5⟩ := hv3.form; replace hS := on_go HR.out hS hb3; replace hg4 := hg4.below hb3; replace hp2 := hp2.below hb3; replace hp3 := hp3.below hb3; clear hv3 hgr hgy hb3)
                      refine hK.out _ _ ?_ (fun hHeld2 => ?_)
                      · (try dsimp only)
                        (first | assumption | exact HS0.out _ hS | exact HS0.out _ (Below.refl _ _).drew | exact HS0.out _ (below_pair hS (Nat.le_refl _) _ _) | exact HS0.out _ (below_pair (below_pair hS (Nat.le_refl _) _ _) (Nat.le_succ _) _ _))
                      replace hHeld := hHeld2
                      clear hK K hHeld2
                      (try dsimp only at hHeld)
                      (try simp only [List.setIfInBounds_toArray, List.set_cons_zero, List.set_cons_succ])
                      refine wpAnyH_ready (rs := [6]) (by kernel_rfl) (by simp) ?_
                      refine ready_at 6 ⟨_, rfl⟩ (fun o ho K hK => ?_) ?_
                      · simp only [List.getElem?_toArray, List.getElem?_cons_succ, List.getElem?_cons_zero, Option.some.injEq] at ho
                        subst ho
                        obtain ⟨f20, f21, c20, c21⟩ := hp2.facts
                        go_simp
                        refine hK.out _ _ ?_ (fun hHeld2 => ?_)
                        · (try dsimp only)
                          (first | assumption | exact HS0.out _ hS | exact HS0.out _ (Below.refl _ _).drew | exact HS0.out _ (below_pair hS (Nat.le_refl _) _ _) | exact HS0.out _ (below_pair (below_pair hS (Nat.le_refl _) _ _) (Nat.le_succ _) _ _))
                        replace hHeld := hHeld2
                        clear hK K hHeld2 f20 f21 c20 c21
                        (try dsimp only at hHeld)
                        (try simp only [List.setIfInBounds_toArray, List.set_cons_zero, List.set_cons_succ])
                        refine wpAnyH_ready (rs := [7]) (by kernel_rfl) (by simp) ?_
                        refine ready_at 7 ⟨_, rfl⟩ (fun o ho K hK => ?_) ?_
                        · simp only [List.getElem?_toArray, List.getElem?_cons_succ, List.getElem?_cons_zero, Option.some.injEq] at ho
                          subst ho
                          obtain ⟨f30, f31, c30, c31⟩ := (hp3.far (b' := w.heap.size + 1 + 1) (by omega) (.bool d4) (.slice A4 n4 k4)).facts
                          go_simp
                          refine hK.out _ _ ?_ (fun hHeld2 => ?_)
                          · (try dsimp only)
                            (first | assumption | exact HS0.out _ hS | exact HS0.out _ (Below.refl _ _).drew | exact HS0.out _ (below_pair hS (Nat.le_refl _) _ _) | exact HS0.out _ (below_pair (below_pair hS (Nat.le_refl _) _ _) (Nat.le_succ _) _ _))
                          replace hHeld := hHeld2
                          clear hK K hHeld2 f30 f31 c30 c31
                          (try dsimp only at hHeld)
                          (try simp only [List.setIfInBounds_toArray, List.set_cons_zero, List.set_cons_succ])
                          refine wpAnyH_done (by kernel_rfl) ?_ _
                          refine NoPanic.normal ?_
                          go_wp2_with fail
                          go_meet
                          case rel => exact ⟨AtT.of ((hp2.set _ _).far (by omega) _ _) HD4 (((hg4.le (by omega)).pair hp2 _ _).pair (hp3.far (by omega) _ _) _ _) ((HN4.out.pair hp2 _ _).pair (hp3.far (by omega) _ _) _ _) ((hp3.far (by omega) _ _).set _ _) HD5 (((hg5.le (by omega)).pair hp2 _ _).pair (hp3.far (by omega) _ _) _ _) ((HN5.out.pair hp2 _ _).pair (hp3.far (by omega) _ _) _ _) HSQ, below_pair (below_pair (hbw.trans (hS.mono (by omega))) (by omega) _ _) (by omega) _ _⟩
                        exact AllReadyH.nil
                      exact AllReadyH.nil
                    exact AllReadyH.nil
                  exact AllReadyH.nil
                exact AllReadyH.nil
              refine ready_at 3 ⟨_, rfl⟩ (fun o ho K hK => ?_) ?_
              · simp only [List.getElem?_toArray, List.getElem?_cons_succ, List.getElem?_cons_zero, Option.some.injEq] at ho
                subst ho
                obtain ⟨_, _, c30, c31⟩ := hp3.facts
                go_simp
                refine hK.out _ _ ?_ (fun hHeld2 => ?_)
                · (try dsimp only)
                  (first | assumption | exact HS0.out _ hS | exact HS0.out _ (Below.refl _ _).drew | exact HS0.out _ (below_pair hS (Nat.le_refl _) _ _) | exact HS0.out _ (below_pair (below_pair hS (Nat.le_refl _) _ _) (Nat.le_succ _) _ _))
                replace hHeld := hHeld2
                clear hK K hHeld2 c30 c31
                (try dsimp only at hHeld)
                (try simp only [List.setIfInBounds_toArray, List.set_cons_zero, List.set_cons_succ])
                refine wpAnyH_ready (rs := [0]) (by kernel_rfl) (by simp) ?_
                refine ready_at 0 ⟨_, rfl⟩ (fun o ho K hK => ?_) ?_
                · simp only [List.getElem?_toArray, List.getElem?_cons_zero, Option.some.injEq] at ho
                  subst ho
                  obtain ⟨_, _, c20, c21⟩ := hp2.facts
                  go_simp
                  refine hK.out _ _ ?_ (fun hHeld2 => ?_)
                  · (try dsimp only)
                    (first | assumption | exact HS0.out _ hS | exact HS0.out _ (Below.refl _ _).drew | exact HS0.out _ (below_pair hS (Nat.le_refl _) _ _) | exact HS0.out _ (below_pair (below_pair hS (Nat.le_refl _) _ _) (Nat.le_succ _) _ _))
                  replace hHeld := hHeld2
                  clear hK K hHeld2 c20 c21
                  (try dsimp only at hHeld)
                  (try simp only [List.setIfInBounds_toArray, List.set_cons_zero, List.set_cons_succ])
                  refine wpAnyH_ready (rs := [2]) (by kernel_rfl) (by simp) ?_
                  refine ready_at 2 ⟨_, rfl⟩ (fun o ho K hK => ?_) ?_
                  · simp only [List.getElem?_toArray, List.getElem?_cons_succ, List.getElem?_cons_zero, Option.some.injEq] at ho
                    subst ho
                    go_simp
                    (go_at_call 26; refine (sub_w (iv_of HDQ hgq) hv1.iv (by omega)).mono ?_; rintro e w2 ⟨v2, rfl, hv2, hb2, hn4⟩; have HN4 := Lib.hid (hn4.le (base' := w.heap.size) (Nat.le_trans hbw.size hS.size)); clear hn4; rw [← E1.out] at hv2; obtain ⟨d4, A4, n4, k4, rfl, HD4, hg4⟩ := hv2.form; replace hS := on_go HR.out hS hb2; replace hp2 := hp2.below hb2; replace hp3 := hp3.below hb2; replace hgy := hgy.below hb2; replace hgr := hgr.below hb2; clear hv1 hv2 hgq hb2)
                    refine hK.out _ _ ?_ (fun hHeld2 => ?_)
                    · (try dsimp only)
                      (first | assumption | exact HS0.out _ hS | exact HS0.out _ (Below.refl _ _).drew | exact HS0.out _ (below_pair hS (Nat.le_refl _) _ _) | exact HS0.out _ (below_pair (below_pair hS (Nat.le_refl _) _ _) (Nat.le_succ _) _ _))
                    replace hHeld := hHeld2
                    clear hK K hHeld2
                    (try dsimp only at hHeld)
                    (try simp only [List.setIfInBounds_toArray, List.set_cons_zero, List.set_cons_succ])
                    refine wpAnyH_ready (rs := [5]) (by kernel_rfl) (by simp) ?_
                    refine ready_at 5 ⟨_, rfl⟩ (fun o ho K hK => ?_) ?_
                    · simp only [List.getElem?_toArray, List.getElem?_cons_succ, List.getElem?_cons_zero, Option.some.injEq] at ho
                      subst ho
                      go_simp
                      (go_at_call 23; refine (add_n (iv_of HDR hgr) (iv_of HDY hgy) (by omega)).mono ?_; rintro e w3 ⟨v3, rfl, hv3, hb3, hn5⟩; have HSQ := Lib.hid (HN4.out.sep hn5); have HN5 := Lib.hid (hn5.le (base' := w.heap.size) (Nat.le_trans hbw.size hS.size)); clear hn5; replace HN4 := Lib.hid (HN4.out.below hb3); rw [← E2.out] at hv3; obtain ⟨d5, A5, n5, k5, rfl, HD5, hg5⟩ := hv3.form; replace hS := on_go HR.out hS hb3; replace hg4 := hg4.below hb3; replace hp2 := hp2.below hb3; replace hp3 := hp3.below hb3; clear hv3 hgr hgy hb3)
                      refine hK.out _ _ ?_ (fun hHeld2 => ?_)
                      · (try dsimp only)
                        (first | assumption | exact HS0.out _ hS | exact HS0.out _ (Below.refl _ _).drew | exact HS0.out _ (below_pair hS (Nat.le_refl _) _ _) | exact HS0.out _ (below_pair (below_pair hS (Nat.le_refl _) _ _) (Nat.le_succ _) _ _))
                      replace hHeld := hHeld2
                      clear hK K hHeld2
                      (try dsimp only at hHeld)
                      (try simp only [List.setIfInBounds_toArray, List.set_cons_zero, List.set_cons_succ])
                      refine wpAnyH_ready (rs := [6]) (by kernel_rfl) (by simp) ?_
                      refine ready_at 6 ⟨_, rfl⟩ (fun o ho K hK => ?_) ?_
                      · simp only [List.getElem?_toArray, List.getElem?_cons_succ, List.getElem?_cons_zero, Option.some.injEq] at ho
                        subst ho
                        obtain ⟨f20, f21, c20, c21⟩ := hp2.facts
                        go_simp
                        refine hK.out _ _ ?_ (fun hHeld2 => ?_)
                        · (try dsimp only)
                          (first | assumption | exact HS0.out _ hS | exact HS0.out _ (Below.refl _ _).drew | exact HS0.out _ (below_pair hS (Nat.le_refl _) _ _) | exact HS0.out _ (below_pair (below_pair hS (Nat.le_refl _) _ _) (Nat.le_succ _) _ _))
                        replace hHeld := hHeld2
                        clear hK K hHeld2 f20 f21 c20 c21
                        (try dsimp only at hHeld)
                        (try simp only [List.setIfInBounds_toArray, List.set_cons_zero, List.set_cons_succ])
                        refine wpAnyH_ready (rs := [7]) (by kernel_rfl) (by simp) ?_
                        refine ready_at 7 ⟨_, rfl⟩ (fun o ho K hK => ?_) ?_
                        · simp only [List.getElem?_toArray, List.getElem?_cons_succ, List.getElem?_cons_zero, Option.some.injEq] at ho
                          subst ho
                          obtain ⟨f30, f31, c30, c31⟩ := (hp3.far (b' := w.heap.size + 1 + 1) (by omega) (.bool d4) (.slice A4 n4 k4)).facts
                          go_simp
                          refine hK.out _ _ ?_ (fun hHeld2 => ?_)
                          · (try dsimp only)
                            (first | assumption | exact HS0.out _ hS | exact HS0.out _ (Below.refl _ _).drew | exact HS0.out _ (below_pair hS (Nat.le_refl _) _ _) | exact HS0.out _ (below_pair (below_pair hS (Nat.le_refl _) _ _) (Nat.le_succ _) _ _))
                          replace hHeld := hHeld2
                          clear hK K hHeld2 f30 f31 c30 c31
                          (try dsimp only at hHeld)
                          (try simp only [List.setIfInBounds_toArray, List.set_cons_zero, List.set_cons_succ])
                          refine wpAnyH_done (by kernel_rfl) ?_ _
                          refine NoPanic.normal ?_
                          go_wp2_with fail
                          go_meet
                          case rel => exact ⟨AtT.of ((hp2.set _ _).far (by omega) _ _) HD4 (((hg4.le (by omega)).pair hp2 _ _).pair (hp3.far (by omega) _ _) _ _) ((HN4.out.pair hp2 _ _).pair (hp3.far (by omega) _ _) _ _) ((hp3.far (by omega) _ _).set _ _) HD5 (((hg5.le (by omega)).pair hp2 _ _).pair (hp3.far (by omega) _ _) _ _) ((HN5.out.pair hp2 _ _).pair (hp3.far (by omega) _ _) _ _) HSQ, below_pair (below_pair (hbw.trans (hS.mono (by omega))) (by omega) _ _) (by omega) _ _⟩
                        exact AllReadyH.nil
                      exact AllReadyH.nil
                    exact AllReadyH.nil
                  exact AllReadyH.nil
                exact AllReadyH.nil
              exact AllReadyH.nil
            refine ready_at 3 ⟨_, rfl⟩ (fun o ho K hK => ?_) ?_
            · simp only [List.getElem?_toArray, List.getElem?_cons_succ, List.getElem?_cons_zero, Option.some.injEq] at ho
              subst ho
              obtain ⟨_, _, c30, c31⟩ := hp3.facts
              go_simp
              refine hK.out _ _ ?_ (fun hHeld2 => ?_)
              · (try dsimp only)
                (first | assumption | exact HS0.out _ hS | exact HS0.out _ (Below.refl _ _).drew | exact HS0.out _ (below_pair hS (Nat.le_refl _) _ _) | exact HS0.out _ (below_pair (below_pair hS (Nat.le_refl _) _ _) (Nat.le_succ _) _ _))
              replace hHeld := hHeld2
              clear hK K hHeld2 c30 c31
              (try dsimp only at hHeld)
              (try simp only [List.setIfInBounds_toArray, List.set_cons_zero, List.set_cons_succ])
              refine wpAnyH_ready (rs := [0, 1]) (by kernel_rfl) (by simp) ?_
              refine ready_at 0 ⟨_, rfl⟩ (fun o ho K hK => ?_) ?_
              · simp only [List.getElem?_toArray, List.getElem?_cons_zero, Option.some.injEq] at ho
                subst ho
                obtain ⟨_, _, c20, c21⟩ := hp2.facts
                go_simp
                refine hK.out _ _ ?_ (fun hHeld2 => ?_)
                · (try dsimp only)
                  (first | assumption | exact HS0.out _ hS | exact HS0.out _ (Below.refl _ _).drew | exact HS0.out _ (below_pair hS (Nat.le_refl _) _ _) | exact HS0.out _ (below_pair (below_pair hS (Nat.le_refl _) _ _) (Nat.le_succ _) _ _))
                replace hHeld := hHeld2
                clear hK K hHeld2 c20 c21
                (try dsimp only at hHeld)
                (try simp only [List.setIfInBounds_toArray, List.set_cons_zero, List.set_cons_succ])
                refine wpAnyH_ready (rs := [1]) (by kernel_rfl) (by simp) ?_
                refine ready_at 1 ⟨_, rfl⟩ (fun o ho K hK => ?_) ?_
                · simp only [List.getElem?_toArray, List.getElem?_cons_succ, List.getElem?_cons_zero, Option.some.injEq] at ho
                  subst ho
                  go_simp
                  (go_at_call 37; refine (of_i _ 1 (by omega)).mono ?_; rintro e w1 ⟨v1, rfl, hv1, hb1⟩; replace hS := on_go HR.out hS hb1; replace hp2 := hp2.below hb1; replace hp3 := hp3.below hb1; replace hgy := hgy.below hb1; replace hgq := hgq.below hb1; replace hgr := hgr.below hb1; clear hb1)
                  refine hK.out _ _ ?_ (fun hHeld2 => ?_)
                  · (try dsimp only)
                    (first | assumption | exact HS0.out _ hS | exact HS0.out _ (Below.refl _ _).drew | exact HS0.out _ (below_pair hS (Nat.le_refl _) _ _) | exact HS0.out _ (below_pair (below_pair hS (Nat.le_refl _) _ _) (Nat.le_succ _) _ _))
                  replace hHeld := hHeld2
                  clear hK K hHeld2
                  (try dsimp only at hHeld)
                  (try simp only [List.setIfInBounds_toArray, List.set_cons_zero, List.set_cons_succ])
                  refine wpAnyH_ready (rs := [2]) (by kernel_rfl) (by simp) ?_
                  refine ready_at 2 ⟨_, rfl⟩ (fun o ho K hK => ?_) ?_
                  · simp only [List.getElem?_toArray, List.getElem?_cons_succ, List.getElem?_cons_zero, Option.some.injEq] at ho
                    subst ho
                    go_simp
                    (go_at_call 26; refine (sub_w (iv_of HDQ hgq) hv1.iv (by omega)).mono ?_; rintro e w2 ⟨v2, rfl, hv2, hb2, hn4⟩; have HN4 := Lib.hid (hn4.le (base' := w.heap.size) (Nat.le_trans hbw.size hS.size)); clear hn4; rw [← E1.out] at hv2; obtain ⟨d4, A4, n4, k4, rfl, HD4, hg4⟩ := hv2.form; replace hS := on_go HR.out hS hb2; replace hp2 := hp2.below hb2; replace hp3 := hp3.below hb2; replace hgy := hgy.below hb2; replace hgr := hgr.below hb2; clear hv1 hv2 hgq hb2)
                    refine hK.out _ _ ?_ (fun hHeld2 => ?_)
                    · (try dsimp only)
                      (first | assumption | exact HS0.out _ hS | exact HS0.out _ (Below.refl _ _).drew | exact HS0.out _ (below_pair hS (Nat.le_refl _) _ _) | exact HS0.out _ (below_pair (below_pair hS (Nat.le_refl _) _ _) (Nat.le_succ _) _ _))
                    replace hHeld := hHeld2
                    clear hK K hHeld2
                    (try dsimp only at hHeld)
                    (try simp only [List.setIfInBounds_toArray, List.set_cons_zero, List.set_cons_succ])
                    refine wpAnyH_ready (rs := [5]) (by kernel_rfl) (by simp) ?_
                    refine ready_at 5 ⟨_, rfl⟩ (fun o ho K hK => ?_) ?_
                    · simp only [List.getElem?_toArray, List.getElem?_cons_succ, List.getElem?_cons_zero, Option.some.injEq] at ho
                      subst ho
                      go_simp
                      (go_at_call 23; refine (add_n (iv_of HDR hgr) (iv_of HDY hgy) (by omega)).mono ?_; rintro e w3 ⟨v3, rfl, hv3, hb3, hn5⟩; have HSQ := Lib.hid (HN4.out.sep hn5); have HN5 := Lib.hid (hn5.le (base' := w.heap.size) (Nat.le_trans hbw.size hS.size)); clear hn5; replace HN4 := Lib.hid (HN4.out.below hb3); rw [← E2.out] at hv3; obtain ⟨d5, A5, n5, k5, rfl, HD5, hg5⟩ := hv3.form; replace hS := on_go HR.out hS hb3; replace hg4 := hg4.below hb3; replace hp2 := hp2.below hb3; replace hp3 := hp3.below hb3; clear hv3 hgr hgy hb3)
                      refine hK.out _ _ ?_ (fun hHeld2 => ?_)
                      · (try dsimp only)
                        (first | assumption | exact HS0.out _ hS | exact HS0.out _ (Below.refl _ _).drew | exact HS0.out _ (below_pair hS (Nat.le_refl _) _ _) | exact HS0.out _ (below_pair (below_pair hS (Nat.le_refl _) _ _) (Nat.le_succ _) _ _))
                      replace hHeld := hHeld2
                      clear hK K hHeld2
                      (try dsimp only at hHeld)
                      (try simp only [List.setIfInBounds_toArray, List.set_cons_zero, List.set_cons_succ])
                      refine wpAnyH_ready (rs := [6]) (by kernel_rfl) (by simp) ?_
                      refine ready_at 6 ⟨_, rfl⟩ (fun o ho K hK => ?_) ?_
                      · simp only [List.getElem?_toArray, List.getElem?_cons_succ, List.getElem?_cons_zero, Option.some.injEq] at ho
                        subst ho
                        obtain ⟨f20, f21, c20, c21⟩ := hp2.facts
                        go_simp
                        refine hK.out _ _ ?_ (fun hHeld2 => ?_)
                        · (try dsimp only)
                          (first | assumption | exact HS0.out _ hS | exact HS0.out _ (Below.refl _ _).drew | exact HS0.out _ (below_pair hS (Nat.le_refl _) _ _) | exact HS0.out _ (below_pair (below_pair hS (Nat.le_refl _) _ _) (Nat.le_succ _) _ _))
                        replace hHeld := hHeld2
                        clear hK K hHeld2 f20 f21 c20 c21
                        (try dsimp only at hHeld)
                        (try simp only [List.setIfInBounds_toArray, List.set_cons_zero, List.set_cons_succ])
                        refine wpAnyH_ready (rs := [7]) (by kernel_rfl) (by simp) ?_
                        refine ready_at 7 ⟨_, rfl⟩ (fun o ho K hK => ?_) ?_
                        · simp only [List.getElem?_toArray, List.getElem?_cons_succ, List.getElem?_cons_zero, Option.some.injEq] at ho
                          subst ho
                          obtain ⟨f30, f31, c30, c31⟩ := (hp3.far (b' := w.heap.size + 1 + 1) (by omega) (.bool d4) (.slice A4 n4 k4)).facts
                          go_simp
                          refine hK.out _ _ ?_ (fun hHeld2 => ?_)
                          · (try dsimp only)
                            (first | assumption | exact HS0.out _ hS | exact HS0.out _ (Below.refl _ _).drew | exact HS0.out _ (below_pair hS (Nat.le_refl _) _ _) | exact HS0.out _ (below_pair (below_pair hS (Nat.le_refl _) _ _) (Nat.le_succ _) _ _))
                          replace hHeld := hHeld2
                          clear hK K hHeld2 f30 f31 c30 c31
                          (try dsimp only at hHeld)
                          (try simp only [List.setIfInBounds_toArray, List.set_cons_zero, List.set_cons_succ])
                          refine wpAnyH_done (by kernel_rfl) ?_ _
                          refine NoPanic.normal ?_
                          go_wp2_with fail
                          go_meet
                          case rel => exact ⟨AtT.of ((hp2.set _ _).far (by omega) _ _) HD4 (((hg4.le (by omega)).pair hp2 _ _).pair (hp3.far (by omega) _ _) _ _) ((HN4.out.pair hp2 _ _).pair (hp3.far (by omega) _ _) _ _) ((hp3.far (by omega) _ _).set _ _) HD5 (((hg5.le (by omega)).pair hp2 _ _).pair (hp3.far (by omega) _ _) _ _) ((HN5.out.pair hp2 _ _).pair (hp3.far (by omega) _ _) _ _) HSQ, below_pair (below_pair (hbw.trans (hS.mono (by omega))) (by omega) _ _) (by omega) _ _⟩
                        exact AllReadyH.nil
                      exact AllReadyH.nil
                    exact AllReadyH.nil
                  exact AllReadyH.nil
                exact AllReadyH.nil
              refine ready_at 1 ⟨_, rfl⟩ (fun o ho K hK => ?_) ?_
              · simp only [List.getElem?_toArray, List.getElem?_cons_succ, List.getElem?_cons_zero, Option.some.injEq] at ho
                subst ho
                go_simp
                (go_at_call 37; refine (of_i _ 1 (by omega)).mono ?_; rintro e w1 ⟨v1, rfl, hv1, hb1⟩; replace hS := on_go HR.out hS hb1; replace hp2 := hp2.below hb1; replace hp3 := hp3.below hb1; replace hgy := hgy.below hb1; replace hgq := hgq.below hb1; replace hgr := hgr.below hb1; clear hb1)
                refine hK.out _ _ ?_ (fun hHeld2 => ?_)
                · (try dsimp only)
                  (first | assumption | exact HS0.out _ hS | exact HS0.out _ (Below.refl _ _).drew | exact HS0.out _ (below_pair hS (Nat.le_refl _) _ _) | exact HS0.out _ (below_pair (below_pair hS (Nat.le_refl _) _ _) (Nat.le_succ _) _ _))
                replace hHeld := hHeld2
                clear hK K hHeld2
                (try dsimp only at hHeld)
                (try simp only [List.setIfInBounds_toArray, List.set_cons_zero, List.set_cons_succ])
                refine wpAnyH_ready (rs := [0]) (by kernel_rfl) (by simp) ?_
                refine ready_at 0 ⟨_, rfl⟩ (fun o ho K hK => ?_) ?_
                · simp only [List.getElem?_toArray, List.getElem?_cons_zero, Option.some.injEq] at ho
                  subst ho
                  obtain ⟨_, _, c20, c21⟩ := hp2.facts
                  go_simp
                  refine hK.out _ _ ?_ (fun hHeld2 => ?_)
                  · (try dsimp only)
                    (first | assumption | exact HS0.out _ hS | exact HS0.out _ (Below.refl _ _).drew | exact HS0.out _ (below_pair hS (Nat.le_refl _) _ _) | exact HS0.out _ (below_pair (below_pair hS (Nat.le_refl _) _ _) (Nat.le_succ _) _ _))
                  replace hHeld := hHeld2
                  clear hK K hHeld2 c20 c21
                  (try dsimp only at hHeld)
                  (try simp only [List.setIfInBounds_toArray, List.set_cons_zero, List.set_cons_succ])
                  refine wpAnyH_ready (rs := [2]) (by kernel_rfl) (by simp) ?_
                  refine ready_at 2 ⟨_, rfl⟩ (fun o ho K hK => ?_) ?_
                  · simp only [List.getElem?_toArray, List.getElem?_cons_succ, List.getElem?_cons_zero, Option.some.injEq] at ho
                    subst ho
                    go_simp
                    (go_at_call 26; refine (sub_w (iv_of HDQ hgq) hv1.iv (by omega)).mono ?_; rintro e w2 ⟨v2, rfl, hv2, hb2, hn4⟩; have HN4 := Lib.hid (hn4.le (base' := w.heap.size) (Nat.le_trans hbw.size hS.size)); clear hn4; rw [← E1.out] at hv2; obtain ⟨d4, A4, n4, k4, rfl, HD4, hg4⟩ := hv2.form; replace hS := on_go HR.out hS hb2; replace hp2 := hp2.below hb2; replace hp3 := hp3.below hb2; replace hgy := hgy.below hb2; replace hgr := hgr.below hb2; clear hv1 hv2 hgq hb2)
                    refine hK.out _ _ ?_ (fun hHeld2 => ?_)
                    · (try dsimp only)
                      (first | assumption | exact HS0.out _ hS | exact HS0.out _ (Below.refl _ _).drew | exact HS0.out _ (below_pair hS (Nat.le_refl _) _ _) | exact HS0.out _ (below_pair (below_pair hS (Nat.le_refl _) _ _) (Nat.le_succ _) _ _))
                    replace hHeld := hHeld2
                    clear hK K hHeld2
                    (try dsimp only at hHeld)
                    (try simp only [List.setIfInBounds_toArray, List.set_cons_zero, List.set_cons_succ])
                    refine wpAnyH_ready (rs := [5]) (by kernel_rfl) (by simp) ?_
                    refine ready_at 5 ⟨_, rfl⟩ (fun o ho K hK => ?_) ?_
                    · simp only [List.getElem?_toArray, List.getElem?_cons_succ, List.getElem?_cons_zero, Option.some.injEq] at ho
                      subst ho
                      go_simp
                      (go_at_call 23; refine (add_n (iv_of HDR hgr) (iv_of HDY hgy) (by omega)).mono ?_; rintro e w3 ⟨v3, rfl, hv3, hb3, hn5⟩; have HSQ := Lib.hid (HN4.out.sep hn5); have HN5 := Lib.hid (hn5.le (base' := w.heap.size) (Nat.le_trans hbw.size hS.size)); clear hn5; replace HN4 := Lib.hid (HN4.out.below hb3); rw [← E2.out] at hv3; obtain ⟨d5, A5, n5, k5, rfl, HD5, hg5⟩ := hv3.form; replace hS := on_go HR.out hS hb3; replace hg4 := hg4.below hb3; replace hp2 := hp2.below hb3; replace hp3 := hp3.below hb3; clear hv3 hgr hgy hb3)
                      refine hK.out _ _ ?_ (fun hHeld2 => ?_)
                      · (try dsimp only)
                        (first | assumption | exact HS0.out _ hS | exact HS0.out _ (Below.refl _ _).drew | exact HS0.out _ (below_pair hS (Nat.le_refl _) _ _) | exact HS0.out _ (below_pair (below_pair hS (Nat.le_refl _) _ _) (Nat.le_succ _) _ _))
                      replace hHeld := hHeld2
                      clear hK K hHeld2
                      (try dsimp only at hHeld)
                      (try simp only [List.setIfInBounds_toArray, List.set_cons_zero, List.set_cons_succ])
                      refine wpAnyH_ready (rs := [6]) (by kernel_rfl) (by simp) ?_
                      refine ready_at 6 ⟨_, rfl⟩ (fun o ho K hK => ?_) ?_
                      · simp only [List.getElem?_toArray, List.getElem?_cons_succ, List.getElem?_cons_zero, Option.some.injEq] at ho
                        subst ho
                        obtain ⟨f20, f21, c20, c21⟩ := hp2.facts
                        go_simp
                        refine hK.out _ _ ?_ (fun hHeld2 => ?_)
                        · (try dsimp only)
                          (first | assumption | exact HS0.out _ hS | exact HS0.out _ (Below.refl _ _).drew | exact HS0.out _ (below_pair hS (Nat.le_refl _) _ _) | exact HS0.out _ (below_pair (below_pair hS (Nat.le_refl _) _ _) (Nat.le_succ _) _ _))
                        replace hHeld := hHeld2
                        clear hK K hHeld2 f20 f21 c20 c21
                        (try dsimp only at hHeld)
                        (try simp only [List.setIfInBounds_toArray, List.set_cons_zero, List.set_cons_succ])
                        refine wpAnyH_ready (rs := [7]) (by kernel_rfl) (by simp) ?_
                        refine ready_at 7 ⟨_, rfl⟩ (fun o ho K hK => ?_) ?_
                        · simp only [List.getElem?_toArray, List.getElem?_cons_succ, List.getElem?_cons_zero, Option.some.injEq] at ho
                          subst ho
                          obtain ⟨f30, f31, c30, c31⟩ := (hp3.far (b' := w.heap.size + 1 + 1) (by omega) (.bool d4) (.slice A4 n4 k4)).facts
                          go_simp
                          refine hK.out _ _ ?_ (fun hHeld2 => ?_)
                          · (try dsimp only)
                            (first | assumption | exact HS0.out _ hS | exact HS0.out _ (Below.refl _ _).drew | exact HS0.out _ (below_pair hS (Nat.le_refl _) _ _) | exact HS0.out _ (below_pair (below_pair hS (Nat.le_refl _) _ _) (Nat.le_succ _) _ _))
                          replace hHeld := hHeld2
                          clear hK K hHeld2 f30 f31 c30 c31
                          (try dsimp only at hHeld)
                          (try simp only [List.setIfInBounds_toArray, List.set_cons_zero, List.set_cons_succ])
                          refine wpAnyH_done (by kernel_rfl) ?_ _
                          refine NoPanic.normal ?_
                          go_wp2_with fail
                          go_meet
                          case rel => exact ⟨AtT.of ((hp2.set _ _).far (by omega) _ _) HD4 (((hg4.le (by omega)).pair hp2 _ _).pair (hp3.far (by omega) _ _) _ _) ((HN4.out.pair hp2 _ _).pair (hp3.far (by omega) _ _) _ _) ((hp3.far (by omega) _ _).set _ _) HD5 (((hg5.le (by omega)).pair hp2 _ _).pair (hp3.far (by omega) _ _) _ _) ((HN5.out.pair hp2 _ _).pair (hp3.far (by omega) _ _) _ _) HSQ, below_pair (below_pair (hbw.trans (hS.mono (by omega))) (by omega) _ _) (by omega) _ _⟩
                        exact AllReadyH.nil
                      exact AllReadyH.nil
                    exact AllReadyH.nil
                  exact AllReadyH.nil
                exact AllReadyH.nil
              exact AllReadyH.nil
            exact AllReadyH.nil
        case rest =>
          clear hp2 hp3 hgq hgr HDQ HDR HNQ HNR HSP hbw HXP HXS hcase
          obtain ⟨⟨d1, A1, n1, k1, d2, A2, n2, k2, hp2, HDQ, hgq, HNQ, hp3, HDR, hgr, HNR, HSP⟩, hbw⟩ := hcut
          obtain ⟨f20, f21, c20, c21⟩ := hp2.facts
          obtain ⟨f30, f31, c30, c31⟩ := hp3.facts
          obtain ⟨W8, hW8, h8⟩ : ∃ W8 : World, W8 = ((((wc.setCell ⟨w.heap.size + 1 + 1, 0, none⟩ (.bool d1)).setCell ⟨w.heap.size + 1 + 1, 1, none⟩ (.slice A1 n1 k1)).setCell ⟨w.heap.size + 1 + 1 + 1, 0, none⟩ (.bool d2)).setCell ⟨w.heap.size + 1 + 1 + 1, 1, none⟩ (.slice A2 n2 k2)).drew ∧ (Pair W8 (w.heap.size + 1 + 1) 24 (.bool d1) (.slice A1 n1 k1) ∧ Pair W8 (w.heap.size + 1 + 1 + 1) 24 (.bool d2) (.slice A2 n2 k2)) ∧ (ICan W8 (.agg #[.bool d1, (.slice A1 n1 k1)]) (K + 3) (x.fdiv y) ∧ ICan W8 (.agg #[.bool d2, (.slice A2 n2 k2)]) (2 * L + 1) (x.fmod y)) ∧ Below w.heap.size w W8 ∧ (NwI w.heap.size W8 (.agg #[.bool d1, (.slice A1 n1 k1)]) ∧ NwI w.heap.size W8 (.agg #[.bool d2, (.slice A2 n2 k2)]) ∧ Sep (.agg #[.bool d1, (.slice A1 n1 k1)]) (.agg #[.bool d2, (.slice A2 n2 k2)])) :=
            ⟨_, rfl, ⟨((hp2.set _ _).far (by omega) _ _).drew, ((hp3.far (by omega) _ _).set _ _).drew⟩, ⟨(ICan.mk HDQ.out ((hgq.pair hp2 _ _).pair (hp3.far (by omega) _ _) _ _)).below (below_drew1 _), (ICan.mk HDR.out ((hgr.pair hp2 _ _).pair (hp3.far (by omega) _ _) _ _)).below (below_drew1 _)⟩, (below_pair (below_pair hbw (by omega) _ _) (by omega) _ _).drew, ((HNQ.out.pair hp2 _ _).pair (hp3.far (by omega) _ _) _ _).below (below_drew1 _), ((HNR.out.pair hp2 _ _).pair (hp3.far (by omega) _ _) _ _).below (below_drew1 _), HSP.out⟩
          have HW8 := Lib.hid hW8
          have H8 := Lib.hid h8
          clear hW8 h8 hp2 hp3 hgq hgr HDQ HDR HNQ HNR HSP hbw
          go_wp2_with fail
          go_region
          all_goals
            go_wp2_with fail
            rw [← HW8.out]
            obtain ⟨⟨h2, h3⟩, h4, h5⟩ := H8.out
            refine bodyPost_ret (results_two rfl _ _ _ _ _ _ _ _ rfl rfl h2 h3) rfl ?_
            exact ⟨_, _, rfl, h4, h5⟩
theorem dm_i {w : World} {a b : Value} {K L : Nat} {x y : Int} (ha : IV w a K x) (hb : IV w b L y) (hK : K ≤ 4398046511104) (hL : L ≤ 4398046511104) (hy : y ≠ 0) :
    Calls Tryd.prog 13 #[a, b] w fun e w' => ∃ q r, e = .returned (.tuple #[q, r, .int .i64 0]) ∧ (ICan w' q (K + 3) (x.fdiv y) ∧ ICan w' r (2 * L + 1) (x.fmod y)) ∧ Below w.heap.size w w' :=
  (dm_n ha hb hK hL hy).mono fun _ _ ⟨q, r, h1, h2, h3, _⟩ => ⟨q, r, h1, h2, h3⟩
end Go.Proofs.YtiidghfkdjefgaaDoor

/-
  s: the parts SyntaxReads of the proof.
-/
import Derived.Test.YthiadenmljbdaaaGreatDoorB37s
import Derived.Test.YthiadenmljbdaaaGreatDoorB38s
section
namespace Go.Proofs.YthiadenmljbdaaaGreatDoor
open Go.RowKit
open Go.Shelf
theorem in_t0 (w : World) (R : Nat → Prop) : T.In w R t0 (.agg #[.int .i64 0, .string ⟨#[]⟩, .slice none 0 0, .bool false, .slice none 0 0, .slice none 0 0]) := by
  unfold t0
  rw [T.In]
  exact ⟨none, 0, none, 0, none, 0, rfl, ⟨Nat.le_refl _, fun h => absurd h (by simp)⟩, ⟨Sl.nil _ _ _, fun h => absurd h (by simp)⟩, Nat.le_refl _, fun h => absurd h (by simp)⟩
set_option maxRecDepth 100000 in
set_option maxHeartbeats 4000000 in
theorem walkSyntaxReads (w : World) (S : ByteArray) :
    Calls Tryz.prog 7 #[.string S] w fun e w' => e = .returned (.bool true) ∧ Below w.heap.size w w' := by
  by_cases h0 : (P.res S).1 = 0
  · have hr := P.res_zero S h0
    obtain ⟨t, ht⟩ : ∃ t, (P.res S).2.2 = t := ⟨_, rfl⟩
    have hbt := res_bulk S
    rw [ht] at hr hbt
    obtain ⟨hwf, hd, hck, hs4⟩ := P.res_wf hr
    have HRS := Lib.hid hr
    have HCK := Lib.hid hck
    clear h0 ht hs4
    have HPR := Lib.hid (fun (w : World) (R : Nat → Prop) (v : Value) (h : T.In w R t v) => print_t t w R v (by omega) h)
    have HKR := Lib.hid (fun (w : World) (R : Nat → Prop) (v : Value) (h : T.In w R t v) => check_t t w R v (by omega) h)
    have HSM := Lib.hid (fun (w : World) (R R' : Nat → Prop) (v v' : Value) (h : T.In w R t v) (h' : T.In w R' t v') => same_self w R R' t v v' (by omega) h h')
    by_cases hl : 4096 < (P.said t).length
    · have e1 : t.prS = [] := by unfold T.prS; rw [if_pos hck, if_pos hl]
      have e2 : t.prE = 40 := by unfold T.prE; rw [if_pos hck, if_pos hl]
      have HE := Lib.hid (And.intro e1 e2)
      clear e1 e2 hr hwf hd hck hl hbt
      go_enter Tryz.func7, Tryz.ntmps7
      go_upto_region 2 with (go_at_call 12; refine (parse_k _ S t HRS.out).mono ?_; rintro e w1 ⟨k', nm', B1, m1, d1', ng', B2, m2, d2, B3, m3, d3, rfl, hin, hb1⟩)
      obtain ⟨V, hV, qs, qm, hbV⟩ := two_new w1 #[.int .i64 k', .string nm', .slice B1 m1 d1', .bool ng', .slice B2 m2 d2, .slice B3 m3 d3] (.int .i64 0) (.int .i64 0)
      rw [← hV]
      obtain ⟨g2, hg2⟩ : ∃ x, x = w1.heap.size + 1 := ⟨_, rfl⟩
      obtain ⟨g1, hg1⟩ : ∃ x, x = w1.heap.size := ⟨_, rfl⟩
      rw [← hg2] at qm ⊢
      rw [← hg1] at qs ⊢
      have hV1 := below_on hb1 hbV
      have HJ := Lib.hid (hin.below hbV)
      clear hV hg1 hg2 hbV hin
      obtain ⟨y0, y1, y2, y3, y4, y5⟩ := qs.six
      obtain ⟨_, _, m0, m1'⟩ := qm.facts
      go_wp2_with (first
        | (go_at_call 18; refine (HPR.out _ _ _ HJ.out).mono ?_; rw [HE.out.1, HE.out.2]; rintro e w2 ⟨rfl, hb2⟩; have hV2 := Below.refl V.heap.size V; replace hV2 := below_on hV2 hb2; clear hb2 y0 y1 y2 y3 y4 y5; obtain ⟨y0, y1, y2, y3, y4, y5⟩ := (qs.below hV2).six)
        | (go_at_call 19; refine (HKR.out _ _ _ (HJ.out.below hV2)).mono ?_; rw [HCK.out]; rintro e w3 ⟨rfl, hb3⟩; have hV3 := below_on hV2 hb3; clear hb3)
        | (go_at_call 15; refine (known_w _).mono ?_; rintro e w4 ⟨rfl, hb4⟩; have hV4 := below_on hV3 hb4; clear hb4))
      go_ret
      exact ⟨rfl, below_on hV1 hV4⟩
    · have e1 : t.prS = P.said t := by unfold T.prS; rw [if_pos hck, if_neg hl]
      have e2 : t.prE = 0 := by unfold T.prE; rw [if_pos hck, if_neg hl]
      have HR2 := Lib.hid (P.res_said hwf hd (by omega))
      obtain ⟨S2, hS2⟩ : ∃ S : ByteArray, S = ⟨(P.said t).toArray⟩ := ⟨_, rfl⟩
      rw [← hS2] at HR2
      have HE : Hid ((⟨t.prS.toArray⟩ : ByteArray) = S2 ∧ t.prE = 0) := Lib.hid ⟨by rw [e1, hS2], e2⟩
      have heq : (S2.toList == S2.toList) = true := by simp
      clear e1 e2 hr hwf hd hck hl hbt hS2
      go_enter Tryz.func7, Tryz.ntmps7
      go_upto_region 2 with (go_at_call 12; refine (parse_k _ S t HRS.out).mono ?_; rintro e w1 ⟨k', nm', B1, m1, d1', ng', B2, m2, d2, B3, m3, d3, rfl, hin, hb1⟩)
      obtain ⟨V, hV, qs, qm, hbV⟩ := two_new w1 #[.int .i64 k', .string nm', .slice B1 m1 d1', .bool ng', .slice B2 m2 d2, .slice B3 m3 d3] (.int .i64 0) (.int .i64 0)
      rw [← hV]
      obtain ⟨g2, hg2⟩ : ∃ x, x = w1.heap.size + 1 := ⟨_, rfl⟩
      obtain ⟨g1, hg1⟩ : ∃ x, x = w1.heap.size := ⟨_, rfl⟩
      rw [← hg2] at qm ⊢
      rw [← hg1] at qs ⊢
      have hV1 := below_on hb1 hbV
      have HJ := Lib.hid (hin.below hbV)
      clear hV hg1 hg2 hbV hin
      obtain ⟨y0, y1, y2, y3, y4, y5⟩ := qs.six
      obtain ⟨_, _, m0, m1'⟩ := qm.facts
      have hV2 := Below.refl V.heap.size V
      have HJ1 := HJ
      go_upto_region 10 with (first
        | (go_at_call 18; refine (HPR.out _ _ _ HJ.out).mono ?_; rw [HE.out.1, HE.out.2]; rintro e w2 ⟨rfl, hb2⟩; replace hV2 := below_on hV2 hb2; clear hb2 y0 y1 y2 y3 y4 y5; obtain ⟨y0, y1, y2, y3, y4, y5⟩ := (qs.below hV2).six)
        | (go_at_call 19; refine (HKR.out _ _ _ (HJ.out.below hV2)).mono ?_; rw [HCK.out]; rintro e w3 ⟨rfl, hb3⟩; have hV3 := below_on hV2 hb3; clear hb3)
        | (go_at_call 12; refine (parse_k _ S2 t HR2.out).mono ?_; rintro e w4 ⟨k2, nm2, C1, p1, f1, ng2, C2, p2, f2, C3, p3, f3, rfl, hin, hb4⟩; have hV4 := below_on hV3 hb4; clear hb4))
      clear y0 y1 y2 y3 y4 y5 m0 m1'
      obtain ⟨U, hU, rs, rm, hbU⟩ := two_new w4 #[.int .i64 k2, .string nm2, .slice C1 p1 f1, .bool ng2, .slice C2 p2 f2, .slice C3 p3 f3] (.int .i64 0) (.int .i64 0)
      rw [← hU]
      obtain ⟨g4, hg4⟩ : ∃ x, x = w4.heap.size + 1 := ⟨_, rfl⟩
      obtain ⟨g3, hg3⟩ : ∃ x, x = w4.heap.size := ⟨_, rfl⟩
      rw [← hg4] at rm ⊢
      rw [← hg3] at rs ⊢
      have hV5 := below_on hV4 hbU
      have HJ2 := Lib.hid (hin.below hbU)
      clear hU hg3 hg4 hbU hin
      have hU0 := Below.refl U.heap.size U
      obtain ⟨z0, z1, z2, z3, z4, z5⟩ := rs.six
      go_upto_region 11 with (go_at_call 18; refine (HPR.out _ _ _ HJ2.out).mono ?_; rw [HE.out.1, HE.out.2]; rintro e w6 ⟨rfl, hb6⟩)
      have hU1 := below_on hU0 hb6
      have hV6 := below_on hV5 hb6
      clear z0 z1 z2 z3 z4 z5 hb6
      obtain ⟨y0, y1, y2, y3, y4, y5⟩ := (qs.below hV6).six
      obtain ⟨z0, z1, z2, z3, z4, z5⟩ := (rs.below hU1).six
      obtain ⟨_, _, m0, m1'⟩ := (rm.below hU1).facts
      go_wp2_with (first
        | (go_at_call 22; refine (HSM.out _ _ _ _ _ (HJ.out.below hV6) (HJ2.out.below hU1)).mono ?_; rintro e w7 ⟨rfl, hb7⟩; have hV7 := below_on hV6 hb7; clear hb7)
        | (go_at_call 15; refine (known_w _).mono ?_; rintro e w8 ⟨rfl, hb8⟩; have hV8 := below_on hV7 hb8; clear hb8))
      go_ret
      exact ⟨rfl, below_on hV1 hV8⟩
  · obtain ⟨ht, hp⟩ := P.res_err S h0
    obtain ⟨c, hc⟩ : ∃ c, (P.res S).1 = c := ⟨_, rfl⟩
    obtain ⟨p, hpe⟩ : ∃ c, (P.res S).2.1 = c := ⟨_, rfl⟩
    rw [hpe] at hp
    rw [hc] at h0
    have HRS : Hid (P.res S = (c, p, t0)) := Lib.hid (by rw [← hc, ← hpe, ← ht])
    have q0 : ((c : Int) != 0) = true := by simp; omega
    have q1 : decide (0 ≤ (p : Int)) = true := by simp
    have q2 : decide ((p : Int) ≥ 0) = true := by simp
    have q3 : decide ((p : Int) ≤ (S.size : Int)) = true := by simp; omega
    have q4 : decide (p ≤ S.size) = true := by simp; omega
    have HPA := Lib.hid (fun (w : World) => by have := parse_o w S; rw [HRS.out] at this; exact this)
    clear ht hp hc hpe h0
    go_enter Tryz.func7, Tryz.ntmps7
    go_upto_region 2 with (go_at_call 12; refine (HPA.out _).mono ?_; rintro e w1 ⟨k', nm', B1, m1, d1', ng', B2, m2, d2, B3, m3, d3, rfl, hin, hb1⟩)
    obtain ⟨V, hV, qs, qm, hbV⟩ := two_new w1 #[.int .i64 k', .string nm', .slice B1 m1 d1', .bool ng', .slice B2 m2 d2, .slice B3 m3 d3] (.int .i64 (c : Nat)) (.int .i64 (p : Nat))
    rw [← hV]
    obtain ⟨g2, hg2⟩ : ∃ x, x = w1.heap.size + 1 := ⟨_, rfl⟩
    obtain ⟨g1, hg1⟩ : ∃ x, x = w1.heap.size := ⟨_, rfl⟩
    rw [← hg2] at qm ⊢
    rw [← hg1] at qs ⊢
    have hV1 := below_on hb1 hbV
    have HJ := Lib.hid (hin.below hbV)
    clear hV hg1 hg2 hbV hin
    obtain ⟨y0, y1, y2, y3, y4, y5⟩ := qs.six
    obtain ⟨_, _, m0, m1'⟩ := qm.facts
    go_wp2_with (first
      | (go_at_call 13; refine (exact_t 1048576 t0 t0 _ _ _ _ _ (by decide) (by decide) (Nat.le_refl _) rfl HJ.out (in_t0 _ (fun _ => False))).mono ?_; rintro e w2 ⟨rfl, hb2⟩; have hV2 := below_on hV1 hb2; clear y0 y1 y2 y3 y4 y5 m0 m1'; obtain ⟨_, _, m0, m1'⟩ := (qm.below hb2).facts; clear hb2)
      | (go_at_call 15; refine (known_w _).mono ?_; rintro e w3 ⟨rfl, hb3⟩; have hV3 := below_on hV2 hb3; clear hb3))
    go_ret
    exact ⟨rfl, hV3⟩
end Go.Proofs.YthiadenmljbdaaaGreatDoor
end

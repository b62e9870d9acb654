/-
  s: the parts SyntaxBack of the proof.
-/
import Derived.Test.YthiadenmljbdaaaGreatDoorB36s
section
namespace Go.Proofs.YthiadenmljbdaaaGreatDoor
open Go.RowKit
open Go.Shelf
theorem parse_o (w : World) (S : ByteArray) :
    Calls Tryz.prog 12 #[.string S] w fun ex w' => ∃ k nm A1 n1 c1 ng A2 n2 c2 A3 n3 c3, ex = .returned (.tuple #[.agg #[.int .i64 k, .string nm, .slice A1 n1 c1, .bool ng, .slice A2 n2 c2, .slice A3 n3 c3], .agg #[.int .i64 ((P.res S).1 : Nat), .int .i64 ((P.res S).2.1 : Nat)]]) ∧
      T.In w' (fun b => w.heap.size ≤ b ∧ b < w'.heap.size) (P.res S).2.2 (.agg #[.int .i64 k, .string nm, .slice A1 n1 c1, .bool ng, .slice A2 n2 c2, .slice A3 n3 c3]) ∧ Below w.heap.size w w' := by
  refine (parse_x w S).mono ?_
  rintro ex w' ⟨v, rfl, hg, hb⟩
  have hin := T.GotE.In _ _ _ v (fun b => w.heap.size ≤ b ∧ b < w'.heap.size) hg (fun _ h => h) (fun _ h1 h2 => ⟨h1, h2⟩)
  obtain ⟨A1, c1, A2, c2, A3, c3, rfl⟩ := T.GotE.form hg
  exact ⟨_, _, A1, _, c1, _, A2, _, c2, A3, _, c3, rfl, hin, hb⟩
theorem parse_k (w : World) (S : ByteArray) (t : T) (hr : P.res S = (0, 0, t)) :
    Calls Tryz.prog 12 #[.string S] w fun ex w' => ∃ k nm A1 n1 c1 ng A2 n2 c2 A3 n3 c3, ex = .returned (.tuple #[.agg #[.int .i64 k, .string nm, .slice A1 n1 c1, .bool ng, .slice A2 n2 c2, .slice A3 n3 c3], .agg #[.int .i64 0, .int .i64 0]]) ∧
      T.In w' (fun b => w.heap.size ≤ b ∧ b < w'.heap.size) t (.agg #[.int .i64 k, .string nm, .slice A1 n1 c1, .bool ng, .slice A2 n2 c2, .slice A3 n3 c3]) ∧ Below w.heap.size w w' := by
  have := parse_o w S
  rw [hr] at this
  exact this
theorem two_new (w : World) (cs : Array Value) (a b : Value) : ∃ W : World, W = (w.alloc (.cells cs 28)).alloc (.cells #[a, b] 31) ∧ Blk W w.heap.size 28 cs ∧ Pair W (w.heap.size + 1) 31 a b ∧ Below w.heap.size w W := by
  obtain ⟨W1, hW1, ps1, hb1⟩ := made_blk w cs 28
  have hsz : W1.heap.size = w.heap.size + 1 := by rw [hW1]; simp
  have hb2 := below_alloc1 W1 (.cells #[a, b] 31)
  have pm := Pair.new W1 31 a b
  rw [hsz] at pm
  exact ⟨_, by rw [hW1], ps1.below hb2, pm, below_on hb1 hb2⟩
theorem same_self (w : World) (R R' : Nat → Prop) (t : T) (v v' : Value) (ht : t.bulk ≤ 1048576) (h : T.In w R t v) (h' : T.In w R' t v') : Calls Tryz.prog 22 #[v, v'] w fun e w' => e = .returned (.bool true) ∧ Below w.heap.size w w' := by
  have := same_w 1048576 t t w R R' v v' ht ht (Nat.le_refl _) h h'
  rw [T.sm_self] at this
  exact this
set_option maxRecDepth 100000 in
set_option maxHeartbeats 4000000 in
theorem walkSyntaxBack (t : T) (w : World) (R : Nat → Prop) (v : Value) (hN : t.bulk ≤ 1048576) (h : T.In w R t v) :
    Calls Tryz.prog 6 #[v] w fun e w' => e = .returned (.bool true) ∧ Below w.heap.size w w' := by
  have hIn := h
  obtain ⟨A1, c1, A2, c2, A3, c3, rfl, _⟩ := h.form
  obtain ⟨nm, hnm⟩ : ∃ x, t.nm = x := ⟨_, rfl⟩
  obtain ⟨ng, hng⟩ : ∃ x, t.ng = x := ⟨_, rfl⟩
  obtain ⟨n1, hn1⟩ : ∃ x, t.ns.length = x := ⟨_, rfl⟩
  obtain ⟨n2, hn2⟩ : ∃ x, t.mg.length = x := ⟨_, rfl⟩
  obtain ⟨n3, hn3⟩ : ∃ x, t.ks.length = x := ⟨_, rfl⟩
  obtain ⟨kk, hkk⟩ : ∃ x, t.k = x := ⟨_, rfl⟩
  rw [hkk, hnm, hng, hn1, hn2, hn3] at hIn ⊢
  clear h hnm hng hn1 hn2 hn3 hkk
  unfold tv at hIn ⊢
  have HWF := Lib.hid (P.wf_in (t := t) hIn)
  obtain ⟨W, hW, ps, hbW⟩ := made_blk w #[.int .i64 kk, .string nm, .slice A1 n1 c1, .bool ng, .slice A2 n2 c2, .slice A3 n3 c3] 28
  obtain ⟨g, hg⟩ : ∃ g, g = w.heap.size := ⟨_, rfl⟩
  have HI := Lib.hid (hIn.below hbW)
  rw [← hg] at ps
  have hV0 := Below.refl W.heap.size W
  have hbw := hbW
  clear hIn hbW
  obtain ⟨z, hz⟩ : ∃ z, t.chk = z := ⟨_, rfl⟩
  have HZ := Lib.hid hz
  have HPR := Lib.hid (fun (w : World) (R : Nat → Prop) (v : Value) (h : T.In w R t v) => print_t t w R v hN h)
  by_cases h0 : z = 0
  · subst h0
    obtain ⟨hwf, hd⟩ := HWF.out HZ.out
    by_cases hl : 4096 < (P.said t).length
    · have e1 : t.prS = [] := by unfold T.prS; rw [if_pos hz, if_pos hl]
      have e2 : t.prE = 40 := by unfold T.prE; rw [if_pos hz, if_pos hl]
      have HE := Lib.hid (And.intro e1 e2)
      clear e1 e2 hz hwf hd HWF hl
      go_enter Tryz.func6, Tryz.ntmps6
      go_upto_region 1 with (fail)
      rw [← hW, ← hg]
      clear hW hg
      obtain ⟨x0, x1, x2, x3, x4, x5⟩ := ps.six
      go_wp2_with (first
        | (go_at_call 18; refine (HPR.out _ R _ HI.out).mono ?_; rw [HE.out.1, HE.out.2]; rintro e w1 ⟨rfl, hb1⟩; have hV1 := below_on hV0 hb1; clear hb1 x0 x1 x2 x3 x4 x5; obtain ⟨x0, x1, x2, x3, x4, x5⟩ := (ps.below hV1).six)
        | (go_at_call 19; refine (check_t t _ R _ hN (HI.out.below hV1)).mono ?_; rw [HZ.out]; rintro e w2 ⟨rfl, hb2⟩; have hV2 := below_on hV1 hb2; clear hb2)
        | (go_at_call 15; refine (known_w _).mono ?_; rintro e w3 ⟨rfl, hb3⟩; have hV3 := below_on hV2 hb3; clear hb3))
      go_ret
      exact ⟨rfl, below_on hbw hV3⟩
    · have e1 : t.prS = P.said t := by unfold T.prS; rw [if_pos hz, if_neg hl]
      have e2 : t.prE = 0 := by unfold T.prE; rw [if_pos hz, if_neg hl]
      have HRS := Lib.hid (P.res_said hwf hd (by omega))
      have hsz : (⟨(P.said t).toArray⟩ : ByteArray).size ≤ 4096 := by simp only [ByteArray.size, List.size_toArray]; omega
      obtain ⟨S, hS⟩ : ∃ S : ByteArray, S = ⟨(P.said t).toArray⟩ := ⟨_, rfl⟩
      rw [← hS] at hsz HRS
      have HE : Hid ((⟨t.prS.toArray⟩ : ByteArray) = S ∧ t.prE = 0) := Lib.hid ⟨by rw [e1, hS], e2⟩
      have d1 : decide ((S.size : Int) ≤ 4096) = true := by simp; omega
      clear e1 e2 hz hwf hd HWF hl hS
      go_enter Tryz.func6, Tryz.ntmps6
      go_upto_region 1 with (fail)
      rw [← hW, ← hg]
      clear hW hg
      obtain ⟨x0, x1, x2, x3, x4, x5⟩ := ps.six
      go_upto_region 6 with (first
        | (go_at_call 18; refine (HPR.out _ R _ HI.out).mono ?_; rw [HE.out.1, HE.out.2]; rintro e w1 ⟨rfl, hb1⟩; have hV1 := below_on hV0 hb1; clear hb1 x0 x1 x2 x3 x4 x5; obtain ⟨x0, x1, x2, x3, x4, x5⟩ := (ps.below hV1).six)
        | (go_at_call 12; refine (parse_k _ S t HRS.out).mono ?_; rintro e w2 ⟨k', nm', B1, m1, d1', ng', B2, m2, d2, B3, m3, d3, rfl, hin, hb2⟩; have hV2 := below_on hV1 hb2; clear hb2))
      obtain ⟨V, hV, qs, qm, hbV⟩ := two_new w2 #[.int .i64 k', .string nm', .slice B1 m1 d1', .bool ng', .slice B2 m2 d2, .slice B3 m3 d3] (.int .i64 0) (.int .i64 0)
      rw [← hV]
      obtain ⟨g2, hg2⟩ : ∃ x, x = w2.heap.size + 1 := ⟨_, rfl⟩
      obtain ⟨g1, hg1⟩ : ∃ x, x = w2.heap.size := ⟨_, rfl⟩
      rw [← hg2] at qm ⊢
      rw [← hg1] at qs ⊢
      have hV3 := below_on hV2 hbV
      have HJ := Lib.hid (hin.below hbV)
      clear hV hg1 hg2 hbV hin x0 x1 x2 x3 x4 x5
      obtain ⟨x0, x1, x2, x3, x4, x5⟩ := (ps.below hV3).six
      obtain ⟨y0, y1, y2, y3, y4, y5⟩ := qs.six
      obtain ⟨_, _, m0, m1'⟩ := qm.facts
      go_wp2_with (first
        | (go_at_call 22; refine (same_self _ R _ t _ _ hN (HI.out.below hV3) HJ.out).mono ?_; rintro e w4 ⟨rfl, hb4⟩; have hV4 := below_on hV3 hb4; clear hb4)
        | (go_at_call 15; refine (known_w _).mono ?_; rintro e w5 ⟨rfl, hb5⟩; have hV5 := below_on hV4 hb5; clear hb5))
      go_ret
      exact ⟨rfl, below_on hbw hV5⟩
  · have e1 : t.prS = [] := by unfold T.prS; rw [if_neg (by rw [hz]; exact h0)]
    have e2 : t.prE = z := by unfold T.prE; rw [if_neg (by rw [hz]; exact h0), hz]
    have HE := Lib.hid (And.intro e1 e2)
    have hzz : (z != 0) = true := by simpa using h0
    clear e1 e2 hz HWF h0
    go_enter Tryz.func6, Tryz.ntmps6
    go_upto_region 1 with (fail)
    rw [← hW, ← hg]
    clear hW hg
    obtain ⟨x0, x1, x2, x3, x4, x5⟩ := ps.six
    go_wp2_with (first
      | (go_at_call 18; refine (HPR.out _ R _ HI.out).mono ?_; rw [HE.out.1, HE.out.2]; rintro e w1 ⟨rfl, hb1⟩; have hV1 := below_on hV0 hb1; clear hb1 x0 x1 x2 x3 x4 x5; obtain ⟨x0, x1, x2, x3, x4, x5⟩ := (ps.below hV1).six)
      | (go_at_call 19; refine (check_t t _ R _ hN (HI.out.below hV1)).mono ?_; rw [HZ.out]; rintro e w2 ⟨rfl, hb2⟩; have hV2 := below_on hV1 hb2; clear hb2)
      | (go_at_call 15; refine (known_w _).mono ?_; rintro e w3 ⟨rfl, hb3⟩; have hV3 := below_on hV2 hb3; clear hb3))
    go_ret
    exact ⟨rfl, below_on hbw hV3⟩
end Go.Proofs.YthiadenmljbdaaaGreatDoor
end

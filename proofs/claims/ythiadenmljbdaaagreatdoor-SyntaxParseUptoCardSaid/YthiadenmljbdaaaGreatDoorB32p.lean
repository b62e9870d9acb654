/-
  p: the parts DPrim.
-/
import Derived.Test.YthiadenmljbdaaaGreatDoorB29p
import Derived.Deep.Cut
namespace Go.Proofs.YthiadenmljbdaaaGreatDoor
section
open Go.RowKit
attribute [local go_sem] Oper.semAt_some
section
variable {R0 : Nat → Prop} {A : Option Addr} {c e : Nat} {ws : List Wd}
set_option maxRecDepth 100000 in
set_option maxHeartbeats 6400000 in
theorem prim_d (f : Nat) (hfo : DRule R0 A c ws e f .form 34) (hsm : DRule R0 A c ws e f .sum 178) : DRule R0 A c ws e (f + 1) .prim 169 := by
 intro w a z hz h ha hX
 subst hz
 rw [P.G_succ] at hX ⊢
 obtain ⟨X, hXe⟩ : ∃ X, P.step e (P.G e f) .prim (ws.drop a) = X := ⟨_, rfl⟩
 rw [hXe] at hX ⊢
 unfold xv
 obtain ⟨w0, g0, g1, hW, hg0, hg1, ps0, pr0, hV0⟩ := enter_d w A ws.length c e
 have h0 := h.below hV0
 have hn := h.2.1
 have hz0 := h.2.2
 have ha1 : a ≤ 1048577 := by omega
 have hl1 : w.heap.size ≤ g1 := by omega
 have hl0 : w.heap.size ≤ g0 := by omega
 have wa1 : IntKind.i64.wrap ((a : Int) + 1) = (a : Int) + 1 := wrap_nat (by omega) (by omega)
 have HW := Lib.hid hW
 have HG0 := Lib.hid hg0
 have HG1 := Lib.hid hg1
 clear h hW hg0 hg1
 have HFO := Lib.hid hfo
 have HSM := Lib.hid hsm
 clear hfo hsm
 obtain ⟨X1, hX1⟩ : ∃ x, P.tx (ws.drop a) = x := ⟨_, rfl⟩
 have m1 : (X1.toList == [116, 114, 117, 101]) = P.isW ⟨#[116, 114, 117, 101]⟩ (ws.drop a) := by rw [← hX1]; exact tx_beq ⟨#[116, 114, 117, 101]⟩ (by decide) _
 have m2 : (X1.toList == [102, 97, 108, 115, 101]) = P.isW ⟨#[102, 97, 108, 115, 101]⟩ (ws.drop a) := by rw [← hX1]; exact tx_beq ⟨#[102, 97, 108, 115, 101]⟩ (by decide) _
 have m3 : (X1.toList == [40]) = P.isW ⟨#[40]⟩ (ws.drop a) := by rw [← hX1]; exact tx_beq ⟨#[40]⟩ (by decide) _
 have HX1 := Lib.hid hX1
 clear hX1
 by_cases c1 : P.isW ⟨#[116, 114, 117, 101]⟩ (ws.drop a) = true
 ·
  have hal : a + 1 ≤ ws.length := isW_lt c1
  rw [c1] at m1
  simp only [P.step, c1, if_true] at hXe
  rw [tail_drop] at hXe
  subst hXe
  clear hX c1
  go_enter Tryz.func169, Tryz.ntmps169
  go_upto_region 1 with (fail)
  rw [← HW.out, ← HG1.out, ← HG0.out]
  obtain ⟨y0, y1⟩ := ps0.duo
  go_upto_region 2 with (go_at_call 64; refine (word_d h0 a ha1 _ rfl).mono ?_; rw [HX1.out]; rintro ex w1 ⟨rfl, hb1⟩)
  have h1 := h0.below hb1
  have hV1 := below_on hV0 hb1
  have ps1 := ps0.below hb1
  have pr1 := pr0.below hb1
  clear h0 hV0 ps0 pr0 y0 y1
  obtain ⟨y0, y1⟩ := ps1.duo
  obtain ⟨⟨p0, p1, p2, p3, p4, p5, p6, p7, p8⟩, z0, z1, z2, z3, z4, z5, z6, z7, z8⟩ := pr1.open9
  go_wp2_with fail
  refine bodyPost_ret (results_rl rfl _ _ _ _ _ _ _ _ _ _ _ _ rfl (pr1.set9 _ _ _ _ _ _ _ _ _)) rfl ?_
  exact dans_ok (t := .node 7 ⟨#[]⟩ [] false [] []) (R := R0) (a' := a + 1) (below_set9 hV1 hl1 _ _ _ _ _ _ _ _ _) (in_leaf (R0 := R0) (fun _ h => h) (Lm.nil _ _)) (fun _ h => .inl h) (fun b h => Nat.lt_of_lt_of_le (h1.2.2 b h) (fr9 _ _ _ _ _ _ _ _ _ _ _).size) hal
 rw [Bool.not_eq_true] at c1
 rw [c1] at m1
 by_cases c2 : P.isW ⟨#[102, 97, 108, 115, 101]⟩ (ws.drop a) = true
 ·
  have hal : a + 1 ≤ ws.length := isW_lt c2
  rw [c2] at m2
  simp only [P.step, c1, c2, if_true, Bool.false_eq_true, if_false] at hXe
  rw [tail_drop] at hXe
  subst hXe
  clear hX c1 c2
  go_enter Tryz.func169, Tryz.ntmps169
  go_upto_region 1 with (fail)
  rw [← HW.out, ← HG1.out, ← HG0.out]
  obtain ⟨y0, y1⟩ := ps0.duo
  go_upto_region 2 with (go_at_call 64; refine (word_d h0 a ha1 _ rfl).mono ?_; rw [HX1.out]; rintro ex w1 ⟨rfl, hb1⟩)
  have h1 := h0.below hb1
  have hV1 := below_on hV0 hb1
  have ps1 := ps0.below hb1
  have pr1 := pr0.below hb1
  clear h0 hV0 ps0 pr0 y0 y1
  obtain ⟨y0, y1⟩ := ps1.duo
  obtain ⟨⟨p0, p1, p2, p3, p4, p5, p6, p7, p8⟩, z0, z1, z2, z3, z4, z5, z6, z7, z8⟩ := pr1.open9
  go_wp2_with fail
  refine bodyPost_ret (results_rl rfl _ _ _ _ _ _ _ _ _ _ _ _ rfl (pr1.set9 _ _ _ _ _ _ _ _ _)) rfl ?_
  exact dans_ok (t := .node 8 ⟨#[]⟩ [] false [] []) (R := R0) (a' := a + 1) (below_set9 hV1 hl1 _ _ _ _ _ _ _ _ _) (in_leaf (R0 := R0) (fun _ h => h) (Lm.nil _ _)) (fun _ h => .inl h) (fun b h => Nat.lt_of_lt_of_le (h1.2.2 b h) (fr9 _ _ _ _ _ _ _ _ _ _ _).size) hal
 rw [Bool.not_eq_true] at c2
 rw [c2] at m2
 by_cases c3 : P.isW ⟨#[40]⟩ (ws.drop a) = true
 ·
  have hal : a + 1 ≤ ws.length := isW_lt c3
  rw [c3] at m3
  simp only [P.step, c1, c2, c3, if_true, Bool.false_eq_true, if_false, tail_drop] at hXe
  clear c1 c2 c3
  cases hY : P.G e f .form (ws.drop (a + 1)) with
  | out => rw [hY] at hXe; exact absurd hXe.symm hX
  | bad cd p =>
   rw [hY] at hXe
   have hXe : P.Rd.bad cd p = X := hXe
   subst hXe
   have HY := Lib.hid hY
   clear hX hY
   go_enter Tryz.func169, Tryz.ntmps169
   go_upto_region 1 with (fail)
   rw [← HW.out, ← HG1.out, ← HG0.out]
   obtain ⟨y0, y1⟩ := ps0.duo
   go_upto_region 2 with (go_at_call 64; refine (word_d h0 a ha1 _ rfl).mono ?_; rw [HX1.out]; rintro ex w1 ⟨rfl, hb1⟩)
   have h1 := h0.below hb1
   have hV1 := below_on hV0 hb1
   have ps1 := ps0.below hb1
   have pr1 := pr0.below hb1
   clear h0 hV0 ps0 pr0 y0 y1
   obtain ⟨y0, y1⟩ := ps1.duo
   obtain ⟨w2, hw2⟩ : ∃ x, x = w1 := ⟨_, rfl⟩
   have hb2 : Below w1.heap.size w1 w2 := hw2 ▸ Below.refl _ _
   rw [← hw2]
   clear hw2
   have h2 := h1.below hb2
   have hV2 := below_on hV1 hb2
   have ps2 := ps1.below hb2
   have pr2 := pr1.below hb2
   clear h1 hV1 ps1 pr1 y0 y1
   obtain ⟨y0, y1⟩ := ps2.duo
   go_upto_region 8 with (go_at_call 34; refine (HFO.out.bad h2 hal (by omega) HY.out).mono ?_; rintro ex w3 ⟨hcd, ⟨z3, rfl⟩, hb3⟩)
   have cd0 : ((cd : Int) == 0) = false := by simp; omega
   have cd1 : ((cd : Int) != 0) = true := by simp; omega
   have h3 := h2.below hb3
   have hV3 := below_on hV2 hb3
   have ps3 := ps2.below hb3
   have pr3 := pr2.below hb3
   clear h2 hV2 ps2 pr2 y0 y1
   obtain ⟨y0, y1⟩ := ps3.duo
   obtain ⟨w4, hw4, pg24, hb4⟩ := made_blk w3 #[.int .i64 0, .string ⟨#[]⟩, .slice none 0 0, .bool false, .slice none 0 0, .slice none 0 0, .int .i64 z3, .int .i64 (cd : Nat), .int .i64 (p : Nat)] 56
   obtain ⟨g2, hg2⟩ : ∃ x, x = w3.heap.size := ⟨_, rfl⟩
   rw [← hw4, ← hg2]
   rw [← hg2] at pg24
   have lg2 : w.heap.size ≤ g2 := by have := hV3.size; omega
   have neg2 : g1 ≠ g2 := by have := pr3.lt; omega
   have nzg2 : g0 ≠ g2 := by have := ps3.lt; omega
   clear hw4 hg2
   have h4 := h3.below hb4
   have hV4 := below_on hV3 hb4
   have ps4 := ps3.below hb4
   have pr4 := pr3.below hb4
   clear h3 hV3 ps3 pr3 y0 y1
   obtain ⟨y0, y1⟩ := ps4.duo
   have qx := pg24.open9
   obtain ⟨⟨p0, p1, p2, p3, p4, p5, p6, p7, p8⟩, z0, z1, z2, z3, z4, z5, z6, z7, z8⟩ := pr4.open9
   have ne' : ¬ (g2 = g1) := fun e => neg2 e.symm
   go_wp2_with fail
   refine bodyPost_ret (results_rl rfl _ _ _ _ _ _ _ _ _ _ _ _ rfl ((pr4.far neg2 6 _).set9 _ _ _ _ _ _ _ _ _)) rfl ?_
   exact dans_bad (below_set9 (hV4.setCell lg2 _) hl1 _ _ _ _ _ _ _ _ _) hcd
  | ok u r =>
   rw [hY] at hXe
   have hXe : (if P.isW ⟨#[41]⟩ r = true then P.Rd.ok u r.tail else P.wrong e r) = X := hXe
   have HY := Lib.hid hY
   clear hX hY
   go_enter Tryz.func169, Tryz.ntmps169
   go_upto_region 1 with (fail)
   rw [← HW.out, ← HG1.out, ← HG0.out]
   obtain ⟨y0, y1⟩ := ps0.duo
   go_upto_region 2 with (go_at_call 64; refine (word_d h0 a ha1 _ rfl).mono ?_; rw [HX1.out]; rintro ex w1 ⟨rfl, hb1⟩)
   have h1 := h0.below hb1
   have hV1 := below_on hV0 hb1
   have ps1 := ps0.below hb1
   have pr1 := pr0.below hb1
   clear h0 hV0 ps0 pr0 y0 y1
   obtain ⟨y0, y1⟩ := ps1.duo
   obtain ⟨w2, hw2⟩ : ∃ x, x = w1 := ⟨_, rfl⟩
   have hb2 : Below w1.heap.size w1 w2 := hw2 ▸ Below.refl _ _
   rw [← hw2]
   clear hw2
   have h2 := h1.below hb2
   have hV2 := below_on hV1 hb2
   have ps2 := ps1.below hb2
   have pr2 := pr1.below hb2
   clear h1 hV1 ps1 pr1 y0 y1
   obtain ⟨y0, y1⟩ := ps2.duo
   go_upto_region 8 with (go_at_call 34; refine (HFO.out.ok h2 hal (by omega) HY.out).mono ?_; rintro ex w3 ⟨⟨A1, c1, A2, c2, A3, c3, a', rfl, rfl, ha', hin⟩, hb3⟩)
   obtain ⟨Ru, hRu⟩ : ∃ R : Nat → Prop, DR R0 w2.heap.size w3.heap.size = R := ⟨_, rfl⟩
   rw [hRu] at hin
   have hinu3 := hin
   clear hin
   have nug1 : ¬ Ru g1 := by
    rw [← hRu]
    rintro (h | ⟨h, _⟩)
    · have := hz0 _ h; omega
    · have := pr2.lt; omega
   have hqu : ∀ b, Ru b → b < w3.heap.size := by
    rw [← hRu]
    rintro b (h | ⟨_, h⟩)
    · have := hz0 _ h; have := hV2.size; have := hb3.size; omega
    · exact h
   have hwu : ∀ b, Ru b → R0 b ∨ w.heap.size ≤ b := by
    rw [← hRu]
    rintro b (h | ⟨h, _⟩)
    · exact .inl h
    · exact .inr (Nat.le_trans hV2.size h)
   clear hRu
   have h3 := h2.below hb3
   have hV3 := below_on hV2 hb3
   have ps3 := ps2.below hb3
   have pr3 := pr2.below hb3
   clear h2 hV2 ps2 pr2 y0 y1
   obtain ⟨y0, y1⟩ := ps3.duo
   obtain ⟨w4, hw4, pg24, hb4⟩ := made_blk w3 #[.int .i64 u.k, .string u.nm, .slice A1 u.ns.length c1, .bool u.ng, .slice A2 u.mg.length c2, .slice A3 u.ks.length c3, .int .i64 (a' : Nat), .int .i64 0, .int .i64 0] 56
   obtain ⟨g2, hg2⟩ : ∃ x, x = w3.heap.size := ⟨_, rfl⟩
   rw [← hw4, ← hg2]
   rw [← hg2] at pg24
   have lg2 : w.heap.size ≤ g2 := by have := hV3.size; omega
   have neg2 : g1 ≠ g2 := by have := pr3.lt; omega
   have nzg2 : g0 ≠ g2 := by have := ps3.lt; omega
   have nug2 : ¬ Ru g2 := fun h => by have := hqu _ h; omega
   have hinu4 := hinu3.below hb4
   replace hqu : ∀ b, Ru b → b < w4.heap.size := fun b h => Nat.lt_of_lt_of_le (hqu b h) hb4.size
   clear hw4 hg2
   have h4 := h3.below hb4
   have hV4 := below_on hV3 hb4
   have ps4 := ps3.below hb4
   have pr4 := pr3.below hb4
   clear h3 hV3 ps3 pr3 y0 y1
   obtain ⟨y0, y1⟩ := ps4.duo
   obtain ⟨X2, hX2⟩ : ∃ x, P.tx (ws.drop a') = x := ⟨_, rfl⟩
   have m3 : (X2.toList == [41]) = P.isW ⟨#[41]⟩ (ws.drop a') := by rw [← hX2]; exact tx_beq ⟨#[41]⟩ (by decide) _
   have HX2 := Lib.hid hX2
   clear hX2
   by_cases h5 : P.isW ⟨#[41]⟩ (ws.drop a') = true
   ·
    have hal2 : a' + 1 ≤ ws.length := isW_lt h5
    rw [if_pos h5, tail_drop] at hXe
    rw [h5] at m3
    subst hXe
    have m4 : (X2.toList != [41]) = false := by rw [bne, m3]; rfl
    have wa2 : IntKind.i64.wrap ((a' : Int) + 1) = (a' : Int) + 1 := wrap_nat (by omega) (by omega)
    clear h5
    have rv := pg24.open9
    go_upto_region 10 with (go_at_call 64; refine (word_d h4 a' (by omega) _ rfl).mono ?_; rw [HX2.out]; rintro ex w5 ⟨rfl, hb5⟩; have qx := (pg24.below hb5).open9)
    have hinu5 := hinu4.below hb5
    replace hqu : ∀ b, Ru b → b < w5.heap.size := fun b h => Nat.lt_of_lt_of_le (hqu b h) hb5.size
    have h5 := h4.below hb5
    have hV5 := below_on hV4 hb5
    have ps5 := ps4.below hb5
    have pr5 := pr4.below hb5
    have pg25 := pg24.below hb5
    clear h4 hV4 ps4 pr4 y0 y1 pg24
    obtain ⟨y0, y1⟩ := ps5.duo
    obtain ⟨⟨p0, p1, p2, p3, p4, p5, p6, p7, p8⟩, z0, z1, z2, z3, z4, z5, z6, z7, z8⟩ := pr5.open9
    have ne' : ¬ (g2 = g1) := fun e => neg2 e.symm
    go_wp2_with fail
    refine bodyPost_ret (results_rl rfl _ _ _ _ _ _ _ _ _ _ _ _ rfl ((pr5.far neg2 6 _).set9 _ _ _ _ _ _ _ _ _)) rfl ?_
    exact dans_ok (a' := a' + 1) (below_set9 (hV5.setCell lg2 _) hl1 _ _ _ _ _ _ _ _ _) ((hinu5.far (fr1 _ _ _ _) nug2).far (fr9 _ _ _ _ _ _ _ _ _ _ _) nug1) hwu (fun b h => Nat.lt_of_lt_of_le (hqu b h) (Nat.le_trans (fr1 w5 g2 6 _).size (fr9 _ _ _ _ _ _ _ _ _ _ _).size)) hal2
   ·
    rw [Bool.not_eq_true] at h5
    rw [h5, if_neg (by decide)] at hXe
    rw [h5] at m3
    have m4 : (X2.toList != [41]) = true := by rw [bne, m3]; rfl
    clear h5
    have rv := pg24.open9
    go_wp2_with (first
     | (go_at_call 35; refine (wrong_d h5 a' (by omega) _ rfl).mono ?_; rintro ex w6 ⟨⟨cd, p, hwr, hcd, rfl⟩, hb6⟩; have hV6 := below_on hV5 hb6; have pr6 := pr5.below hb6; obtain ⟨⟨p0, p1, p2, p3, p4, p5, p6, p7, p8⟩, z0, z1, z2, z3, z4, z5, z6, z7, z8⟩ := pr6.open9)
     | (go_at_call 64; refine (word_d h4 a' (by omega) _ rfl).mono ?_; rw [HX2.out]; rintro ex w5 ⟨rfl, hb5⟩; have h5 := h4.below hb5; have hV5 := below_on hV4 hb5; have pr5 := pr4.below hb5; have ps5 := ps4.below hb5; obtain ⟨y0, y1⟩ := ps5.duo; have qx := (pg24.below hb5).open9))
    refine bodyPost_ret (results_rl rfl _ _ _ _ _ _ _ _ _ _ _ _ rfl (pr6.set9 _ _ _ _ _ _ _ _ _)) rfl ?_
    rw [← hXe, hwr]
    exact dans_bad (below_set9 hV6 hl1 _ _ _ _ _ _ _ _ _) hcd
 rw [Bool.not_eq_true] at c3
 rw [c3] at m3
 obtain ⟨K1, hK1⟩ : ∃ x, P.kd (ws.drop a) = x := ⟨_, rfl⟩
 obtain ⟨X2, hX2⟩ : ∃ x, P.tx (ws.drop (a + 1)) = x := ⟨_, rfl⟩
 have m4 : (X2.toList == [100, 105, 118, 105, 100, 101, 115]) = P.isW ⟨#[100, 105, 118, 105, 100, 101, 115]⟩ (ws.drop (a + 1)) := by rw [← hX2]; exact tx_beq ⟨#[100, 105, 118, 105, 100, 101, 115]⟩ (by decide) _
 have HX2 := Lib.hid hX2
 have HK1 := Lib.hid hK1
 clear hX2
 by_cases c5 : K1 = 1 ∧ P.isW ⟨#[100, 105, 118, 105, 100, 101, 115]⟩ (ws.drop (a + 1)) = true
 ·
  obtain ⟨rfl, c4⟩ := c5
  have hlt := kd_lt hK1 (by decide)
  have hal2 : a + 2 ≤ ws.length := isW_lt c4
  have wa2 : IntKind.i64.wrap ((a : Int) + 2) = (a : Int) + 2 := wrap_nat (by omega) (by omega)
  have i0 : (0 : Int) ≤ (a : Int) := by omega
  have i1 : (a : Int) < ws.length := by omega
  rw [c4] at m4
  obtain ⟨⟨t1, t2, t3, t4⟩, ht⟩ : ∃ t, ws.getD a wd0 = t := ⟨_, rfl⟩
  have hmg : P.mg (ws.drop a) = t3 := by rw [P.mg_drop ws a hlt, ht]
  have hpl : P.pl (ws.drop a) = t4 := by rw [P.pl_drop ws a hlt, ht]
  have hXe : (if t3.isEmpty then .bad 11 t4 else (P.G e f .sum (ws.drop (a + 2))).bind fun u r => .ok (.node 15 ⟨#[]⟩ [] false t3 [u]) r) = X := by
   rw [← hXe]
   simp only [P.step, c1, c2, c3, hK1, tail_drop, c4, hmg, hpl, Bool.false_eq_true, if_false, beq_self_eq_true, Bool.and_true, if_true]
  have HT := Lib.hid ht
  clear c1 c2 c3 c4 hK1 ht hmg hpl
  by_cases c6 : t3.length = 0
  ·
   have d1 : ((t3.length : Int) == 0) = true := beq_iff_eq.2 (by omega)
   rw [if_pos (by simpa using c6)] at hXe
   subst hXe
   clear hX c6
   go_enter Tryz.func169, Tryz.ntmps169
   go_upto_region 1 with (fail)
   rw [← HW.out, ← HG1.out, ← HG0.out]
   obtain ⟨y0, y1⟩ := ps0.duo
   go_upto_region 2 with (go_at_call 64; refine (word_d h0 a ha1 _ rfl).mono ?_; rw [HX1.out]; rintro ex w1 ⟨rfl, hb1⟩)
   have h1 := h0.below hb1
   have hV1 := below_on hV0 hb1
   have ps1 := ps0.below hb1
   have pr1 := pr0.below hb1
   clear h0 hV0 ps0 pr0 y0 y1
   obtain ⟨y0, y1⟩ := ps1.duo
   go_upto_region 13 with (first
    | (go_at_call 64; refine (word_d h2 (a + 1) (by omega) _ rfl).mono ?_; rw [HX2.out]; rintro ex w3 ⟨rfl, hb3⟩)
    | (go_at_call 170; refine (kind_d h1 a ha1 _ rfl).mono ?_; rw [HK1.out]; rintro ex w2 ⟨rfl, hb2⟩; have h2 := h1.below hb2; have ps2 := ps1.below hb2; clear y0 y1; obtain ⟨y0, y1⟩ := ps2.duo))
   have hV2 := below_on hV1 hb2
   have pr2 := pr1.below hb2
   clear h1 hV1 ps1 pr1
   have h3 := h2.below hb3
   have hV3 := below_on hV2 hb3
   have ps3 := ps2.below hb3
   have pr3 := pr2.below hb3
   clear h2 hV2 ps2 pr2 y0 y1
   obtain ⟨y0, y1⟩ := ps3.duo
   have hwd := h3.1
   unfold Wds at hwd
   obtain ⟨g, hA, _, hwc⟩ := hwd (by omega)
   subst hA
   obtain ⟨B, d, _, _, e2, e3, e4, hlm⟩ := hwc a hlt
   rw [HT.out] at e3 e4 hlm
   dsimp only at e3 e4 hlm
   clear hwd hwc
   go_upto_region 14 with (fail)
   obtain ⟨w4, hw4, pn4, hb4⟩ := made_blk w3 #[.bool false, .slice B t3.length d] 25
   obtain ⟨g3, hg3⟩ : ∃ x, x = w3.heap.size := ⟨_, rfl⟩
   rw [← hw4, ← hg3]
   rw [← hg3] at pn4
   have lg3 : w.heap.size ≤ g3 := by have := hV3.size; omega
   have neg3 : g1 ≠ g3 := by have := pr3.lt; omega
   have e4' := (hb4.cell (World.block_lt_of_cell? _ _ e4)).trans e4
   clear hw4 hg3 e2 e3 e4
   have hlm4 := hlm.keep (Kp.of_below hb4)
   have h4 := h3.below hb4
   have hV4 := below_on hV3 hb4
   have ps4 := ps3.below hb4
   have pr4 := pr3.below hb4
   clear h3 hV3 ps3 pr3 y0 y1
   obtain ⟨y0, y1⟩ := ps4.duo
   obtain ⟨n0, n1⟩ := pn4.duo
   obtain ⟨⟨p0, p1, p2, p3, p4, p5, p6, p7, p8⟩, z0, z1, z2, z3, z4, z5, z6, z7, z8⟩ := pr4.open9
   go_wp2_with fail
   refine bodyPost_ret (results_rl rfl _ _ _ _ _ _ _ _ _ _ _ _ rfl (pr4.set9 _ _ _ _ _ _ _ _ _)) rfl ?_
   exact dans_bad (below_set9 hV4 hl1 _ _ _ _ _ _ _ _ _) (by decide)
  ·
   have d1 : ((t3.length : Int) == 0) = false := beq_eq_false_iff_ne.2 (by omega)
   rw [if_neg (by simpa using c6)] at hXe
   clear c6
   cases hY : P.G e f .sum (ws.drop (a + 2)) with
   | out => rw [hY] at hXe; exact absurd hXe.symm hX
   | bad cd p =>
    rw [hY] at hXe
    have hXe : P.Rd.bad cd p = X := hXe
    subst hXe
    have HY := Lib.hid hY
    clear hX hY
    go_enter Tryz.func169, Tryz.ntmps169
    go_upto_region 1 with (fail)
    rw [← HW.out, ← HG1.out, ← HG0.out]
    obtain ⟨y0, y1⟩ := ps0.duo
    go_upto_region 2 with (go_at_call 64; refine (word_d h0 a ha1 _ rfl).mono ?_; rw [HX1.out]; rintro ex w1 ⟨rfl, hb1⟩)
    have h1 := h0.below hb1
    have hV1 := below_on hV0 hb1
    have ps1 := ps0.below hb1
    have pr1 := pr0.below hb1
    clear h0 hV0 ps0 pr0 y0 y1
    obtain ⟨y0, y1⟩ := ps1.duo
    go_upto_region 13 with (first
     | (go_at_call 64; refine (word_d h2 (a + 1) (by omega) _ rfl).mono ?_; rw [HX2.out]; rintro ex w3 ⟨rfl, hb3⟩)
     | (go_at_call 170; refine (kind_d h1 a ha1 _ rfl).mono ?_; rw [HK1.out]; rintro ex w2 ⟨rfl, hb2⟩; have h2 := h1.below hb2; have ps2 := ps1.below hb2; clear y0 y1; obtain ⟨y0, y1⟩ := ps2.duo))
    have hV2 := below_on hV1 hb2
    have pr2 := pr1.below hb2
    clear h1 hV1 ps1 pr1
    have h3 := h2.below hb3
    have hV3 := below_on hV2 hb3
    have ps3 := ps2.below hb3
    have pr3 := pr2.below hb3
    clear h2 hV2 ps2 pr2 y0 y1
    obtain ⟨y0, y1⟩ := ps3.duo
    have hwd := h3.1
    unfold Wds at hwd
    obtain ⟨g, hA, _, hwc⟩ := hwd (by omega)
    subst hA
    obtain ⟨B, d, _, _, e2, e3, e4, hlm⟩ := hwc a hlt
    rw [HT.out] at e3 e4 hlm
    dsimp only at e3 e4 hlm
    clear hwd hwc
    go_upto_region 14 with (fail)
    obtain ⟨w4, hw4, pn4, hb4⟩ := made_blk w3 #[.bool false, .slice B t3.length d] 25
    obtain ⟨g3, hg3⟩ : ∃ x, x = w3.heap.size := ⟨_, rfl⟩
    rw [← hw4, ← hg3]
    rw [← hg3] at pn4
    have lg3 : w.heap.size ≤ g3 := by have := hV3.size; omega
    have neg3 : g1 ≠ g3 := by have := pr3.lt; omega
    have e4' := (hb4.cell (World.block_lt_of_cell? _ _ e4)).trans e4
    clear hw4 hg3 e2 e3 e4
    have hlm4 := hlm.keep (Kp.of_below hb4)
    have h4 := h3.below hb4
    have hV4 := below_on hV3 hb4
    have ps4 := ps3.below hb4
    have pr4 := pr3.below hb4
    clear h3 hV3 ps3 pr3 y0 y1
    obtain ⟨y0, y1⟩ := ps4.duo
    obtain ⟨n0, n1⟩ := pn4.duo
    go_upto_region 17 with (go_at_call 178; refine (HSM.out.bad h4 hal2 (by omega) HY.out).mono ?_; rintro ex w5 ⟨hcd, ⟨z3, rfl⟩, hb5⟩)
    have cd0 : ((cd : Int) == 0) = false := by simp; omega
    have cd1 : ((cd : Int) != 0) = true := by simp; omega
    have h5 := h4.below hb5
    have hV5 := below_on hV4 hb5
    have ps5 := ps4.below hb5
    have pr5 := pr4.below hb5
    clear h4 hV4 ps4 pr4 y0 y1
    obtain ⟨y0, y1⟩ := ps5.duo
    obtain ⟨w6, hw6, pg26, hb6⟩ := made_blk w5 #[.int .i64 0, .string ⟨#[]⟩, .slice none 0 0, .bool false, .slice none 0 0, .slice none 0 0, .int .i64 z3, .int .i64 (cd : Nat), .int .i64 (p : Nat)] 56
    obtain ⟨g2, hg2⟩ : ∃ x, x = w5.heap.size := ⟨_, rfl⟩
    rw [← hw6, ← hg2]
    rw [← hg2] at pg26
    have lg2 : w.heap.size ≤ g2 := by have := hV5.size; omega
    have neg2 : g1 ≠ g2 := by have := pr5.lt; omega
    have nzg2 : g0 ≠ g2 := by have := ps5.lt; omega
    clear hw6 hg2
    have h6 := h5.below hb6
    have hV6 := below_on hV5 hb6
    have ps6 := ps5.below hb6
    have pr6 := pr5.below hb6
    clear h5 hV5 ps5 pr5 y0 y1
    obtain ⟨y0, y1⟩ := ps6.duo
    have qx := pg26.open9
    obtain ⟨⟨p0, p1, p2, p3, p4, p5, p6, p7, p8⟩, z0, z1, z2, z3, z4, z5, z6, z7, z8⟩ := pr6.open9
    go_wp2_with fail
    refine bodyPost_ret (results_rl rfl _ _ _ _ _ _ _ _ _ _ _ _ rfl (pr6.set9 _ _ _ _ _ _ _ _ _)) rfl ?_
    exact dans_bad (below_set9 hV6 hl1 _ _ _ _ _ _ _ _ _) hcd
   | ok u r =>
    rw [hY] at hXe
    have hXe : P.Rd.ok (.node 15 ⟨#[]⟩ [] false t3 [u]) r = X := hXe
    subst hXe
    have HY := Lib.hid hY
    clear hX hY
    go_enter Tryz.func169, Tryz.ntmps169
    go_upto_region 1 with (fail)
    rw [← HW.out, ← HG1.out, ← HG0.out]
    obtain ⟨y0, y1⟩ := ps0.duo
    go_upto_region 2 with (go_at_call 64; refine (word_d h0 a ha1 _ rfl).mono ?_; rw [HX1.out]; rintro ex w1 ⟨rfl, hb1⟩)
    have h1 := h0.below hb1
    have hV1 := below_on hV0 hb1
    have ps1 := ps0.below hb1
    have pr1 := pr0.below hb1
    clear h0 hV0 ps0 pr0 y0 y1
    obtain ⟨y0, y1⟩ := ps1.duo
    go_upto_region 13 with (first
     | (go_at_call 64; refine (word_d h2 (a + 1) (by omega) _ rfl).mono ?_; rw [HX2.out]; rintro ex w3 ⟨rfl, hb3⟩)
     | (go_at_call 170; refine (kind_d h1 a ha1 _ rfl).mono ?_; rw [HK1.out]; rintro ex w2 ⟨rfl, hb2⟩; have h2 := h1.below hb2; have ps2 := ps1.below hb2; clear y0 y1; obtain ⟨y0, y1⟩ := ps2.duo))
    have hV2 := below_on hV1 hb2
    have pr2 := pr1.below hb2
    clear h1 hV1 ps1 pr1
    have h3 := h2.below hb3
    have hV3 := below_on hV2 hb3
    have ps3 := ps2.below hb3
    have pr3 := pr2.below hb3
    clear h2 hV2 ps2 pr2 y0 y1
    obtain ⟨y0, y1⟩ := ps3.duo
    have hwd := h3.1
    unfold Wds at hwd
    obtain ⟨g, hA, _, hwc⟩ := hwd (by omega)
    subst hA
    obtain ⟨B, d, _, _, e2, e3, e4, hlm⟩ := hwc a hlt
    rw [HT.out] at e3 e4 hlm
    dsimp only at e3 e4 hlm
    clear hwd hwc
    go_upto_region 14 with (fail)
    obtain ⟨w4, hw4, pn4, hb4⟩ := made_blk w3 #[.bool false, .slice B t3.length d] 25
    obtain ⟨g3, hg3⟩ : ∃ x, x = w3.heap.size := ⟨_, rfl⟩
    rw [← hw4, ← hg3]
    rw [← hg3] at pn4
    have lg3 : w.heap.size ≤ g3 := by have := hV3.size; omega
    have neg3 : g1 ≠ g3 := by have := pr3.lt; omega
    have e4' := (hb4.cell (World.block_lt_of_cell? _ _ e4)).trans e4
    clear hw4 hg3 e2 e3 e4
    have hlm4 := hlm.keep (Kp.of_below hb4)
    have h4 := h3.below hb4
    have hV4 := below_on hV3 hb4
    have ps4 := ps3.below hb4
    have pr4 := pr3.below hb4
    clear h3 hV3 ps3 pr3 y0 y1
    obtain ⟨y0, y1⟩ := ps4.duo
    obtain ⟨n0, n1⟩ := pn4.duo
    go_upto_region 17 with (go_at_call 178; refine (HSM.out.ok h4 hal2 (by omega) HY.out).mono ?_; rintro ex w5 ⟨⟨A1, c1, A2, c2, A3, c3, a', rfl, rfl, ha', hin⟩, hb5⟩)
    obtain ⟨Ru, hRu⟩ : ∃ R : Nat → Prop, DR R0 w4.heap.size w5.heap.size = R := ⟨_, rfl⟩
    rw [hRu] at hin
    have hinu5 := hin
    clear hin
    have nug1 : ¬ Ru g1 := by
     rw [← hRu]
     rintro (h | ⟨h, _⟩)
     · have := hz0 _ h; omega
     · have := pr4.lt; omega
    have hqu : ∀ b, Ru b → b < w5.heap.size := by
     rw [← hRu]
     rintro b (h | ⟨_, h⟩)
     · have := hz0 _ h; have := hV4.size; have := hb5.size; omega
     · exact h
    have hwu : ∀ b, Ru b → R0 b ∨ w.heap.size ≤ b := by
     rw [← hRu]
     rintro b (h | ⟨h, _⟩)
     · exact .inl h
     · exact .inr (Nat.le_trans hV4.size h)
    clear hRu
    have h5 := h4.below hb5
    have hV5 := below_on hV4 hb5
    have ps5 := ps4.below hb5
    have pr5 := pr4.below hb5
    have pn5 := pn4.below hb5
    clear h4 hV4 ps4 pr4 y0 y1 pn4
    obtain ⟨y0, y1⟩ := ps5.duo
    obtain ⟨w6, hw6, pg26, hb6⟩ := made_blk w5 #[.int .i64 u.k, .string u.nm, .slice A1 u.ns.length c1, .bool u.ng, .slice A2 u.mg.length c2, .slice A3 u.ks.length c3, .int .i64 (a' : Nat), .int .i64 0, .int .i64 0] 56
    obtain ⟨g2, hg2⟩ : ∃ x, x = w5.heap.size := ⟨_, rfl⟩
    rw [← hw6, ← hg2]
    rw [← hg2] at pg26
    have lg2 : w.heap.size ≤ g2 := by have := hV5.size; omega
    have neg2 : g1 ≠ g2 := by have := pr5.lt; omega
    have nzg2 : g0 ≠ g2 := by have := ps5.lt; omega
    have nug2 : ¬ Ru g2 := fun h => by have := hqu _ h; omega
    have hinu6 := hinu5.below hb6
    replace hqu : ∀ b, Ru b → b < w6.heap.size := fun b h => Nat.lt_of_lt_of_le (hqu b h) hb6.size
    clear hw6 hg2
    have h6 := h5.below hb6
    have hV6 := below_on hV5 hb6
    have ps6 := ps5.below hb6
    have pr6 := pr5.below hb6
    have pn6 := pn5.below hb6
    clear h5 hV5 ps5 pr5 y0 y1 pn5
    obtain ⟨y0, y1⟩ := ps6.duo
    obtain ⟨n2, n3⟩ := (pn6.below (below_alloc1 w6 (.cells #[.int .i64 u.k, .string u.nm, .slice A1 u.ns.length c1, .bool u.ng, .slice A2 u.mg.length c2, .slice A3 u.ks.length c3] 28))).duo
    obtain ⟨n4, n5⟩ := pn6.duo
    have hlm6 := (hlm4.keep (Kp.of_below hb5)).keep (Kp.of_below hb6)
    have HA := below_alloc1 w6 (.cells #[.int .i64 u.k, .string u.nm, .slice A1 u.ns.length c1, .bool u.ng, .slice A2 u.mg.length c2, .slice A3 u.ks.length c3] 28)
    have rv := pg26.open9
    have qx := (pg26.below HA).open9
    obtain ⟨⟨p0, p1, p2, p3, p4, p5, p6, p7, p8⟩, z0, z1, z2, z3, z4, z5, z6, z7, z8⟩ := (pr6.below HA).open9
    have ne' : ¬ (g2 = g1) := fun e => neg2 e.symm
    go_wp2_with fail
    refine bodyPost_ret (results_rl rfl _ _ _ _ _ _ _ _ _ _ _ _ rfl (((pr6.below HA).far6 neg2 _ _ _ _ _ _).set9 _ _ _ _ _ _ _ _ _)) rfl ?_
    exact dans_one hV6 hl1 lg2 pr6.lt pg26.lt hz0 hinu6 (fun b h => (hwu b h).imp id (fun h' => ⟨h', hqu b h⟩)) nug1 nug2 hlm6 ha' rfl
 have hc5 : (K1 == 1 && P.isW ⟨#[100, 105, 118, 105, 100, 101, 115]⟩ (ws.drop (a + 1))) = false := by
  cases h : (K1 == 1 && P.isW ⟨#[100, 105, 118, 105, 100, 101, 115]⟩ (ws.drop (a + 1)))
  · rfl
  · exact absurd (by simpa using h) c5
 have hXe : ((P.G e f .sum (ws.drop a)).bind fun t r => if P.sign r = 0 then P.wrong e r else (P.G e f .sum r.tail).bind fun u r' => .ok (P.nd (P.sign r) [t, u]) r') = X := by
  rw [← hXe]
  simp only [P.step, c1, c2, c3, hK1, tail_drop, hc5, Bool.false_eq_true, if_false]
 have hcs : K1 ≠ 1 ∨ (K1 = 1 ∧ P.isW ⟨#[100, 105, 118, 105, 100, 101, 115]⟩ (ws.drop (a + 1)) = false) := by
  by_cases h : K1 = 1
  · exact .inr ⟨h, by simpa [h] using hc5⟩
  · exact .inl h
 have k1 : ((K1 : Int) == 1) = decide (K1 = 1) := by rw [Bool.eq_iff_iff]; simp; omega
 clear c1 c2 c3 hK1 hc5 c5
 rcases hcs with hcs | ⟨hcs, hcs2⟩
 all_goals
  first
    | (rw [decide_eq_false hcs] at k1; clear m4)
    | (rw [decide_eq_true hcs] at k1; rw [hcs2] at m4)
  cases hY : P.G e f .sum (ws.drop a) with
  | out => rw [hY] at hXe; exact absurd hXe.symm hX
  | bad cd p =>
   rw [hY] at hXe
   have hXe : P.Rd.bad cd p = X := hXe
   subst hXe
   have HY := Lib.hid hY
   clear hX hY
   go_enter Tryz.func169, Tryz.ntmps169
   go_upto_region 1 with (fail)
   rw [← HW.out, ← HG1.out, ← HG0.out]
   obtain ⟨y0, y1⟩ := ps0.duo
   go_upto_region 2 with (go_at_call 64; refine (word_d h0 a ha1 _ rfl).mono ?_; rw [HX1.out]; rintro ex w1 ⟨rfl, hb1⟩)
   have h1 := h0.below hb1
   have hV1 := below_on hV0 hb1
   have ps1 := ps0.below hb1
   have pr1 := pr0.below hb1
   clear h0 hV0 ps0 pr0 y0 y1
   obtain ⟨y0, y1⟩ := ps1.duo
   go_upto_region 20 with (first
    | (go_at_call 64; refine (word_d h2 (a + 1) (by omega) _ rfl).mono ?_; rw [HX2.out]; rintro ex w3 ⟨rfl, hb3⟩)
    | (go_at_call 170; refine (kind_d h1 a ha1 _ rfl).mono ?_; rw [HK1.out]; rintro ex w2 ⟨rfl, hb2⟩; have h2 := h1.below hb2; have ps2 := ps1.below hb2; clear y0 y1; obtain ⟨y0, y1⟩ := ps2.duo))
   (first
     | (have hx := hb3; clear hx)
     | (obtain ⟨w3, hw3⟩ : ∃ x, x = w2 := ⟨_, rfl⟩; have hb3 : Below w2.heap.size w2 w3 := hw3 ▸ Below.refl _ _; rw [← hw3]; clear hw3))
   have hV2 := below_on hV1 hb2
   have pr2 := pr1.below hb2
   clear h1 hV1 ps1 pr1
   have h3 := h2.below hb3
   have hV3 := below_on hV2 hb3
   have ps3 := ps2.below hb3
   have pr3 := pr2.below hb3
   clear h2 hV2 ps2 pr2 y0 y1
   obtain ⟨y0, y1⟩ := ps3.duo
   go_upto_region 21 with (go_at_call 178; refine (HSM.out.bad h3 ha (by omega) HY.out).mono ?_; rintro ex w4 ⟨hcd, ⟨z3, rfl⟩, hb4⟩)
   have cd0 : ((cd : Int) == 0) = false := by simp; omega
   have cd1 : ((cd : Int) != 0) = true := by simp; omega
   have h4 := h3.below hb4
   have hV4 := below_on hV3 hb4
   have ps4 := ps3.below hb4
   have pr4 := pr3.below hb4
   clear h3 hV3 ps3 pr3 y0 y1
   obtain ⟨y0, y1⟩ := ps4.duo
   obtain ⟨w5, hw5, pg25, hb5⟩ := made_blk w4 #[.int .i64 0, .string ⟨#[]⟩, .slice none 0 0, .bool false, .slice none 0 0, .slice none 0 0, .int .i64 z3, .int .i64 (cd : Nat), .int .i64 (p : Nat)] 56
   obtain ⟨g2, hg2⟩ : ∃ x, x = w4.heap.size := ⟨_, rfl⟩
   rw [← hw5, ← hg2]
   rw [← hg2] at pg25
   have lg2 : w.heap.size ≤ g2 := by have := hV4.size; omega
   have neg2 : g1 ≠ g2 := by have := pr4.lt; omega
   have nzg2 : g0 ≠ g2 := by have := ps4.lt; omega
   clear hw5 hg2
   have h5 := h4.below hb5
   have hV5 := below_on hV4 hb5
   have ps5 := ps4.below hb5
   have pr5 := pr4.below hb5
   clear h4 hV4 ps4 pr4 y0 y1
   obtain ⟨y0, y1⟩ := ps5.duo
   have qx := pg25.open9
   obtain ⟨⟨p0, p1, p2, p3, p4, p5, p6, p7, p8⟩, z0, z1, z2, z3, z4, z5, z6, z7, z8⟩ := pr5.open9
   go_wp2_with fail
   refine bodyPost_ret (results_rl rfl _ _ _ _ _ _ _ _ _ _ _ _ rfl (pr5.set9 _ _ _ _ _ _ _ _ _)) rfl ?_
   exact dans_bad (below_set9 hV5 hl1 _ _ _ _ _ _ _ _ _) hcd
  | ok t r =>
   rw [hY] at hXe
   have HY := Lib.hid hY
   clear hY
   go_enter Tryz.func169, Tryz.ntmps169
   go_upto_region 1 with (fail)
   rw [← HW.out, ← HG1.out, ← HG0.out]
   obtain ⟨y0, y1⟩ := ps0.duo
   go_upto_region 2 with (go_at_call 64; refine (word_d h0 a ha1 _ rfl).mono ?_; rw [HX1.out]; rintro ex w1 ⟨rfl, hb1⟩)
   have h1 := h0.below hb1
   have hV1 := below_on hV0 hb1
   have ps1 := ps0.below hb1
   have pr1 := pr0.below hb1
   clear h0 hV0 ps0 pr0 y0 y1
   obtain ⟨y0, y1⟩ := ps1.duo
   go_upto_region 20 with (first
    | (go_at_call 64; refine (word_d h2 (a + 1) (by omega) _ rfl).mono ?_; rw [HX2.out]; rintro ex w3 ⟨rfl, hb3⟩)
    | (go_at_call 170; refine (kind_d h1 a ha1 _ rfl).mono ?_; rw [HK1.out]; rintro ex w2 ⟨rfl, hb2⟩; have h2 := h1.below hb2; have ps2 := ps1.below hb2; clear y0 y1; obtain ⟨y0, y1⟩ := ps2.duo))
   (first
     | (have hx := hb3; clear hx)
     | (obtain ⟨w3, hw3⟩ : ∃ x, x = w2 := ⟨_, rfl⟩; have hb3 : Below w2.heap.size w2 w3 := hw3 ▸ Below.refl _ _; rw [← hw3]; clear hw3))
   have hV2 := below_on hV1 hb2
   have pr2 := pr1.below hb2
   clear h1 hV1 ps1 pr1
   have h3 := h2.below hb3
   have hV3 := below_on hV2 hb3
   have ps3 := ps2.below hb3
   have pr3 := pr2.below hb3
   clear h2 hV2 ps2 pr2 y0 y1
   obtain ⟨y0, y1⟩ := ps3.duo
   go_upto_region 21 with (go_at_call 178; refine (HSM.out.ok h3 ha (by omega) HY.out).mono ?_; rintro ex w4 ⟨⟨B1, d1, B2, d2, B3, d3, a1, rfl, rfl, ha1, hin⟩, hb4⟩)
   obtain ⟨Rt, hRt⟩ : ∃ R : Nat → Prop, DR R0 w3.heap.size w4.heap.size = R := ⟨_, rfl⟩
   rw [hRt] at hin
   have hint4 := hin
   clear hin
   have ntg1 : ¬ Rt g1 := by
    rw [← hRt]
    rintro (h | ⟨h, _⟩)
    · have := hz0 _ h; omega
    · have := pr3.lt; omega
   have hqt : ∀ b, Rt b → b < w4.heap.size := by
    rw [← hRt]
    rintro b (h | ⟨_, h⟩)
    · have := hz0 _ h; have := hV3.size; have := hb4.size; omega
    · exact h
   have hwt : ∀ b, Rt b → R0 b ∨ w.heap.size ≤ b := by
    rw [← hRt]
    rintro b (h | ⟨h, _⟩)
    · exact .inl h
    · exact .inr (Nat.le_trans hV3.size h)
   clear hRt
   have h4 := h3.below hb4
   have hV4 := below_on hV3 hb4
   have ps4 := ps3.below hb4
   have pr4 := pr3.below hb4
   clear h3 hV3 ps3 pr3 y0 y1
   obtain ⟨y0, y1⟩ := ps4.duo
   obtain ⟨w5, hw5, pg25, hb5⟩ := made_blk w4 #[.int .i64 t.k, .string t.nm, .slice B1 t.ns.length d1, .bool t.ng, .slice B2 t.mg.length d2, .slice B3 t.ks.length d3, .int .i64 (a1 : Nat), .int .i64 0, .int .i64 0] 56
   obtain ⟨g2, hg2⟩ : ∃ x, x = w4.heap.size := ⟨_, rfl⟩
   rw [← hw5, ← hg2]
   rw [← hg2] at pg25
   have lg2 : w.heap.size ≤ g2 := by have := hV4.size; omega
   have neg2 : g1 ≠ g2 := by have := pr4.lt; omega
   have nzg2 : g0 ≠ g2 := by have := ps4.lt; omega
   have ntg2 : ¬ Rt g2 := fun h => by have := hqt _ h; omega
   have hint5 := hint4.below hb5
   replace hqt : ∀ b, Rt b → b < w5.heap.size := fun b h => Nat.lt_of_lt_of_le (hqt b h) hb5.size
   clear hw5 hg2
   have h5 := h4.below hb5
   have hV5 := below_on hV4 hb5
   have ps5 := ps4.below hb5
   have pr5 := pr4.below hb5
   clear h4 hV4 ps4 pr4 y0 y1
   obtain ⟨y0, y1⟩ := ps5.duo
   have hXe : (if P.sign (ws.drop a1) = 0 then P.wrong e (ws.drop a1) else (P.G e f .sum (ws.drop a1).tail).bind fun u r' => .ok (P.nd (P.sign (ws.drop a1)) [t, u]) r') = X := hXe
   have wa3 : IntKind.i64.wrap ((a1 : Int) + 1) = (a1 : Int) + 1 := wrap_nat (by omega) (by omega)
   obtain ⟨S, hS⟩ : ∃ x, P.sign (ws.drop a1) = x := ⟨_, rfl⟩
   have HS := Lib.hid hS
   rw [hS] at hXe
   have HWD := Lib.hid (fun (w' : World) (h : Dx w' R0 A ws) => word_d (c := c) (e := e) h a1 (by omega) _ rfl)
   by_cases c4 : S = 0
   ·
    subst c4
    rw [if_pos rfl] at hXe
    have qx := pg25.open9
    go_upto_region 24 with (first
     | (go_at_call 179; refine (sign_d _ (ws.drop a1)).mono ?_; rw [HS.out]; rintro ex w7 ⟨rfl, hb7⟩; have h7 := h6.below hb7; have hV7 := below_on hV6 hb7; have ps7 := ps6.below hb7; have pr7 := pr6.below hb7; have pg27 := pg26.below hb7; have hint7 := hint6.below hb7; replace hqt : ∀ b, Rt b → b < w7.heap.size := fun b h => Nat.lt_of_lt_of_le (hqt b h) hb7.size; clear h6 hV6 ps6 pr6 pg26 hint6 y0 y1 qx; obtain ⟨y0, y1⟩ := ps7.duo; have qx := pg27.open9)
     | (go_at_call 64; refine (HWD.out _ h5).mono ?_; rintro ex w6 ⟨rfl, hb6⟩; have h6 := h5.below hb6; have hV6 := below_on hV5 hb6; have ps6 := ps5.below hb6; have pr6 := pr5.below hb6; have pg26 := pg25.below hb6; have hint6 := hint5.below hb6; replace hqt : ∀ b, Rt b → b < w6.heap.size := fun b h => Nat.lt_of_lt_of_le (hqt b h) hb6.size; clear h5 hV5 ps5 pr5 y0 y1 pg25 qx hint5; obtain ⟨y0, y1⟩ := ps6.duo; have qx := pg26.open9))
    go_wp2_with (go_at_call 35; refine (wrong_d h7 a1 (by omega) _ rfl).mono ?_; rintro ex w8 ⟨⟨cd, p, hwr, hcd, rfl⟩, hb8⟩; have hV8 := below_on hV7 hb8; have pr8 := pr7.below hb8; obtain ⟨⟨p0, p1, p2, p3, p4, p5, p6, p7, p8⟩, z0, z1, z2, z3, z4, z5, z6, z7, z8⟩ := pr8.open9)
    refine bodyPost_ret (results_rl rfl _ _ _ _ _ _ _ _ _ _ _ _ rfl (pr8.set9 _ _ _ _ _ _ _ _ _)) rfl ?_
    rw [← hXe, hwr]
    exact dans_bad (below_set9 hV8 hl1 _ _ _ _ _ _ _ _ _) hcd
   ·
    rw [if_neg c4, tail_drop] at hXe
    have hal : a1 + 1 ≤ ws.length := by
     rcases Nat.lt_or_ge a1 ws.length with h | h
     · exact h
     · exact absurd (by rw [← hS, List.drop_eq_nil_of_le h]; rfl) c4
    have c4' : (S == 0) = false := by simpa using c4
    clear hS
    cases hY : P.G e f .sum (ws.drop (a1 + 1)) with
    | out => rw [hY] at hXe; exact absurd hXe.symm hX
    | bad cd p =>
     rw [hY] at hXe
     have hXe : P.Rd.bad cd p = X := hXe
     subst hXe
     have HY := Lib.hid hY
     clear hX hY
     have qx := pg25.open9
     go_upto_region 24 with (first
      | (go_at_call 179; refine (sign_d _ (ws.drop a1)).mono ?_; rw [HS.out]; rintro ex w7 ⟨rfl, hb7⟩; have h7 := h6.below hb7; have hV7 := below_on hV6 hb7; have ps7 := ps6.below hb7; have pr7 := pr6.below hb7; have pg27 := pg26.below hb7; have hint7 := hint6.below hb7; replace hqt : ∀ b, Rt b → b < w7.heap.size := fun b h => Nat.lt_of_lt_of_le (hqt b h) hb7.size; clear h6 hV6 ps6 pr6 pg26 hint6 y0 y1 qx; obtain ⟨y0, y1⟩ := ps7.duo; have qx := pg27.open9)
      | (go_at_call 64; refine (HWD.out _ h5).mono ?_; rintro ex w6 ⟨rfl, hb6⟩; have h6 := h5.below hb6; have hV6 := below_on hV5 hb6; have ps6 := ps5.below hb6; have pr6 := pr5.below hb6; have pg26 := pg25.below hb6; have hint6 := hint5.below hb6; replace hqt : ∀ b, Rt b → b < w6.heap.size := fun b h => Nat.lt_of_lt_of_le (hqt b h) hb6.size; clear h5 hV5 ps5 pr5 y0 y1 pg25 qx hint5; obtain ⟨y0, y1⟩ := ps6.duo; have qx := pg26.open9))
     go_upto_region 27 with (go_at_call 178; refine (HSM.out.bad h7 hal (by omega) HY.out).mono ?_; rintro ex w8 ⟨hcd, ⟨z3, rfl⟩, hb8⟩)
     have cd0 : ((cd : Int) == 0) = false := by simp; omega
     have cd1 : ((cd : Int) != 0) = true := by simp; omega
     have h8 := h7.below hb8
     have hV8 := below_on hV7 hb8
     have ps8 := ps7.below hb8
     have pr8 := pr7.below hb8
     have pg28 := pg27.below hb8
     clear h7 hV7 ps7 pr7 y0 y1 pg27
     obtain ⟨y0, y1⟩ := ps8.duo
     obtain ⟨w9, hw9, pg39, hb9⟩ := made_blk w8 #[.int .i64 0, .string ⟨#[]⟩, .slice none 0 0, .bool false, .slice none 0 0, .slice none 0 0, .int .i64 z3, .int .i64 (cd : Nat), .int .i64 (p : Nat)] 56
     obtain ⟨g3, hg3⟩ : ∃ x, x = w8.heap.size := ⟨_, rfl⟩
     rw [← hw9, ← hg3]
     rw [← hg3] at pg39
     have lg3 : w.heap.size ≤ g3 := by have := hV8.size; omega
     have neg3 : g1 ≠ g3 := by have := pr8.lt; omega
     have nzg3 : g0 ≠ g3 := by have := ps8.lt; omega
     have neg2g3 : g2 ≠ g3 := by have := pg28.lt; omega
     clear hw9 hg3
     have h9 := h8.below hb9
     have hV9 := below_on hV8 hb9
     have ps9 := ps8.below hb9
     have pr9 := pr8.below hb9
     have pg29 := pg28.below hb9
     clear h8 hV8 ps8 pr8 y0 y1 pg28
     obtain ⟨y0, y1⟩ := ps9.duo
     clear qx
     have qx := pg39.open9
     obtain ⟨⟨p0, p1, p2, p3, p4, p5, p6, p7, p8⟩, z0, z1, z2, z3, z4, z5, z6, z7, z8⟩ := pr9.open9
     go_wp2_with fail
     refine bodyPost_ret (results_rl rfl _ _ _ _ _ _ _ _ _ _ _ _ rfl (pr9.set9 _ _ _ _ _ _ _ _ _)) rfl ?_
     exact dans_bad (below_set9 hV9 hl1 _ _ _ _ _ _ _ _ _) hcd
    | ok u r =>
     rw [hY] at hXe
     have hXe : P.Rd.ok (P.nd S [t, u]) r = X := hXe
     subst hXe
     have HY := Lib.hid hY
     clear hX hY
     have qx := pg25.open9
     go_upto_region 24 with (first
      | (go_at_call 179; refine (sign_d _ (ws.drop a1)).mono ?_; rw [HS.out]; rintro ex w7 ⟨rfl, hb7⟩; have h7 := h6.below hb7; have hV7 := below_on hV6 hb7; have ps7 := ps6.below hb7; have pr7 := pr6.below hb7; have pg27 := pg26.below hb7; have hint7 := hint6.below hb7; replace hqt : ∀ b, Rt b → b < w7.heap.size := fun b h => Nat.lt_of_lt_of_le (hqt b h) hb7.size; clear h6 hV6 ps6 pr6 pg26 hint6 y0 y1 qx; obtain ⟨y0, y1⟩ := ps7.duo; have qx := pg27.open9)
      | (go_at_call 64; refine (HWD.out _ h5).mono ?_; rintro ex w6 ⟨rfl, hb6⟩; have h6 := h5.below hb6; have hV6 := below_on hV5 hb6; have ps6 := ps5.below hb6; have pr6 := pr5.below hb6; have pg26 := pg25.below hb6; have hint6 := hint5.below hb6; replace hqt : ∀ b, Rt b → b < w6.heap.size := fun b h => Nat.lt_of_lt_of_le (hqt b h) hb6.size; clear h5 hV5 ps5 pr5 y0 y1 pg25 qx hint5; obtain ⟨y0, y1⟩ := ps6.duo; have qx := pg26.open9))
     go_upto_region 27 with (go_at_call 178; refine (HSM.out.ok h7 hal (by omega) HY.out).mono ?_; rintro ex w8 ⟨⟨A1, c1, A2, c2, A3, c3, a', rfl, rfl, ha', hin⟩, hb8⟩)
     obtain ⟨Ru, hRu⟩ : ∃ R : Nat → Prop, DR R0 w7.heap.size w8.heap.size = R := ⟨_, rfl⟩
     rw [hRu] at hin
     have hinu8 := hin
     clear hin
     have nug1 : ¬ Ru g1 := by
      rw [← hRu]
      rintro (h | ⟨h, _⟩)
      · have := hz0 _ h; omega
      · have := pr7.lt; omega
     have nug2 : ¬ Ru g2 := by
      rw [← hRu]
      rintro (h | ⟨h, _⟩)
      · have := hz0 _ h; omega
      · have := pg27.lt; omega
     have hqu : ∀ b, Ru b → b < w8.heap.size := by
      rw [← hRu]
      rintro b (h | ⟨_, h⟩)
      · have := hz0 _ h; have := hV7.size; have := hb8.size; omega
      · exact h
     have hwu : ∀ b, Ru b → R0 b ∨ w.heap.size ≤ b := by
      rw [← hRu]
      rintro b (h | ⟨h, _⟩)
      · exact .inl h
      · exact .inr (Nat.le_trans hV7.size h)
     clear hRu
     have hint8 := hint7.below hb8
     replace hqt : ∀ b, Rt b → b < w8.heap.size := fun b h => Nat.lt_of_lt_of_le (hqt b h) hb8.size
     have h8 := h7.below hb8
     have hV8 := below_on hV7 hb8
     have ps8 := ps7.below hb8
     have pr8 := pr7.below hb8
     have pg28 := pg27.below hb8
     clear h7 hV7 ps7 pr7 y0 y1 pg27
     obtain ⟨y0, y1⟩ := ps8.duo
     obtain ⟨w9, hw9, pg39, hb9⟩ := made_blk w8 #[.int .i64 u.k, .string u.nm, .slice A1 u.ns.length c1, .bool u.ng, .slice A2 u.mg.length c2, .slice A3 u.ks.length c3, .int .i64 (a' : Nat), .int .i64 0, .int .i64 0] 56
     obtain ⟨g3, hg3⟩ : ∃ x, x = w8.heap.size := ⟨_, rfl⟩
     rw [← hw9, ← hg3]
     rw [← hg3] at pg39
     have lg3 : w.heap.size ≤ g3 := by have := hV8.size; omega
     have neg3 : g1 ≠ g3 := by have := pr8.lt; omega
     have nzg3 : g0 ≠ g3 := by have := ps8.lt; omega
     have neg2g3 : g2 ≠ g3 := by have := pg28.lt; omega
     have nug3 : ¬ Ru g3 := fun h => by have := hqu _ h; omega
     have hinu9 := hinu8.below hb9
     replace hqu : ∀ b, Ru b → b < w9.heap.size := fun b h => Nat.lt_of_lt_of_le (hqu b h) hb9.size
     have ntg3 : ¬ Rt g3 := fun h => by have := hqt _ h; omega
     have hint9 := hint8.below hb9
     replace hqt : ∀ b, Rt b → b < w9.heap.size := fun b h => Nat.lt_of_lt_of_le (hqt b h) hb9.size
     clear hw9 hg3
     have h9 := h8.below hb9
     have hV9 := below_on hV8 hb9
     have ps9 := ps8.below hb9
     have pr9 := pr8.below hb9
     have pg29 := pg28.below hb9
     clear h8 hV8 ps8 pr8 y0 y1 pg28
     obtain ⟨y0, y1⟩ := ps9.duo
     clear qx
     have HA := below_alloc1 w9 (.cells #[.int .i64 t.k, .string t.nm, .slice B1 t.ns.length d1, .bool t.ng, .slice B2 t.mg.length d2, .slice B3 t.ks.length d3, .int .i64 u.k, .string u.nm, .slice A1 u.ns.length c1, .bool u.ng, .slice A2 u.mg.length c2, .slice A3 u.ks.length c3] 28)
     have qx := pg29.open9
     obtain ⟨⟨p0, p1, p2, p3, p4, p5, p6, p7, p8⟩, z0, z1, z2, z3, z4, z5, z6, z7, z8⟩ := pg39.open9
     have rv := (pr9.below HA).open9
     obtain ⟨⟨s0, s1, s2, s3, s4, s5, s6, s7, s8⟩, k0, k1, k2, k3, k4, k5, k6, k7, k8⟩ := (pg39.below HA).open9
     have ne' : ¬ (g3 = g1) := fun e => neg3 e.symm
     go_wp2_with fail
     refine bodyPost_ret (results_rl rfl _ _ _ _ _ _ _ _ _ _ _ _ rfl (((pr9.below HA).far6 neg3 _ _ _ _ _ _).set9 _ _ _ _ _ _ _ _ _)) rfl ?_
     have hfr := fr6 (w9.alloc (.cells #[.int .i64 t.k, .string t.nm, .slice B1 t.ns.length d1, .bool t.ng, .slice B2 t.mg.length d2, .slice B3 t.ks.length d3, .int .i64 u.k, .string u.nm, .slice A1 u.ns.length c1, .bool u.ng, .slice A2 u.mg.length c2, .slice A3 u.ks.length c3] 28)) g3 (.int .i64 S) (.string ⟨#[]⟩) (.slice none 0 0) (.bool false) (.slice none 0 0) (.slice (some ⟨w9.heap.size, 0, none⟩) 2 2)
     have hsz := hfr.size
     have hsa : (w9.alloc (.cells #[.int .i64 t.k, .string t.nm, .slice B1 t.ns.length d1, .bool t.ng, .slice B2 t.mg.length d2, .slice B3 t.ks.length d3, .int .i64 u.k, .string u.nm, .slice A1 u.ns.length c1, .bool u.ng, .slice A2 u.mg.length c2, .slice A3 u.ks.length c3] 28)).heap.size = w9.heap.size + 1 := by simp
     have hl3 := pg39.lt
     have hl9 := pr9.lt
     have hvs := hV9.size
     have hrt := row_two (k := S) hint9 hinu9 ntg3 nug3 hl3 hfr
     refine dans_ok (t := P.nd S [t, u]) (below_set9 (below_set6 (below_on hV9 HA) lg3 _ _ _ _ _ _) hl1 _ _ _ _ _ _ _ _ _) (hrt.far (fr9 _ _ _ _ _ _ _ _ _ _ _) ?_) ?_ (fun b h => Nat.lt_of_lt_of_le ?_ (fr9 _ _ _ _ _ _ _ _ _ _ _).size) ha'
     · rintro (h | h | h)
       · exact ntg1 h
       · exact nug1 h
       · omega
     · rintro b (h | h | h)
       · exact hwt _ h
       · exact hwu _ h
       · exact .inr (by omega)
     · rcases h with h | h | h
       · have := hqt _ h; omega
       · have := hqu _ h; omega
       · omega
end
end
end Go.Proofs.YthiadenmljbdaaaGreatDoor

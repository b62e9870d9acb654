/-
  p: the parts DOper DRules DParse.
-/
import Derived.Test.YthiadenmljbdaaaGreatDoorB29p
import Derived.Deep.Cut
import Derived.Deep.RegionHeld3
import Derived.Test.YthiadenmljbdaaaGreatDoorB30p
import Derived.Test.YthiadenmljbdaaaGreatDoorB31p
import Derived.Test.YthiadenmljbdaaaGreatDoorB32p
import Derived.Test.YthiadenmljbdaaaGreatDoorB33p
import Derived.Test.YthiadenmljbdaaaGreatDoorB20p
import Derived.Test.YthiadenmljbdaaaGreatDoorB6p
import Derived.Test.YthiadenmljbdaaaGreatDoorB8p
namespace Go.Proofs.YthiadenmljbdaaaGreatDoor
section
open Go.RowKit
attribute [local go_sem] Oper.semAt_some
section
variable {R0 : Nat → Prop} {A : Option Addr} {c e : Nat} {ws : List Wd}
set_option maxRecDepth 100000 in
set_option maxHeartbeats 6400000 in
theorem oper_d (f : Nat) (hop : DRule R0 A c ws e f .oper 186) (hsm : DRule R0 A c ws e f .sum 178) : DRule R0 A c ws e (f + 1) .oper 186 := by
 intro w a z hz h ha hX
 subst hz
 rw [P.G_succ] at hX ⊢
 obtain ⟨X, hXe⟩ : ∃ X, P.step e (P.G e f) .oper (ws.drop a) = X := ⟨_, rfl⟩
 rw [hXe] at hX ⊢
 unfold xv
 obtain ⟨w0, g0, g1, hW, hg0, hg1, ps0, pr0, hV0⟩ := enter_d w A ws.length c e
 have h0 := h.below hV0
 have hn := h.2.1
 have hz0 := h.2.2
 have ha1 : a ≤ 1048577 := by omega
 have hl1 : w.heap.size ≤ g1 := by omega
 have hl0 : w.heap.size ≤ g0 := by omega
 have wa1 : IntKind.i64.wrap ((a : Int) + 1) = (a : Int) + 1 := wrap_nat (by omega) (by omega)
 have HW := Lib.hid hW
 have HG0 := Lib.hid hg0
 have HG1 := Lib.hid hg1
 clear h hW hg0 hg1
 have HOP := Lib.hid hop
 have HSM := Lib.hid hsm
 clear hop hsm
 obtain ⟨X1, hX1⟩ : ∃ x, P.tx (ws.drop a) = x := ⟨_, rfl⟩
 have m1 : (X1.toList == [45]) = P.isW ⟨#[45]⟩ (ws.drop a) := by rw [← hX1]; exact tx_beq ⟨#[45]⟩ (by decide) _
 have m2 : (X1.toList == [40]) = P.isW ⟨#[40]⟩ (ws.drop a) := by rw [← hX1]; exact tx_beq ⟨#[40]⟩ (by decide) _
 have HX1 := Lib.hid hX1
 obtain ⟨K1, hK1⟩ : ∃ x, P.kd (ws.drop a) = x := ⟨_, rfl⟩
 have HK1 := Lib.hid hK1
 by_cases h1 : P.isW ⟨#[45]⟩ (ws.drop a) = true
 ·
  have hal : a + 1 ≤ ws.length := isW_lt h1
  rw [h1] at m1
  simp only [P.step, h1, if_true, tail_drop] at hXe
  clear h1 hX1 hK1 m2
  cases hY : P.G e f .oper (ws.drop (a + 1)) with
  | out => rw [hY] at hXe; exact absurd hXe.symm hX
  | bad cd p =>
   rw [hY] at hXe
   have hXe : P.Rd.bad cd p = X := hXe
   subst hXe
   have HY := Lib.hid hY
   clear hX hY
   go_enter Tryz.func186, Tryz.ntmps186
   go_upto_region 1 with (fail)
   rw [← HW.out, ← HG1.out, ← HG0.out]
   obtain ⟨y0, y1⟩ := ps0.duo
   go_upto_region 2 with (go_at_call 64; refine (word_d h0 a ha1 _ rfl).mono ?_; rw [HX1.out]; rintro ex w1 ⟨rfl, hb1⟩)
   have h1 := h0.below hb1
   have hV1 := below_on hV0 hb1
   have ps1 := ps0.below hb1
   have pr1 := pr0.below hb1
   clear h0 hV0 ps0 pr0 y0 y1
   obtain ⟨y0, y1⟩ := ps1.duo
   go_upto_region 3 with (go_at_call 170; refine (kind_d h1 a ha1 _ rfl).mono ?_; rw [HK1.out]; rintro ex w2 ⟨rfl, hb2⟩)
   have h2 := h1.below hb2
   have hV2 := below_on hV1 hb2
   have ps2 := ps1.below hb2
   have pr2 := pr1.below hb2
   clear h1 hV1 ps1 pr1 y0 y1
   obtain ⟨y0, y1⟩ := ps2.duo
   go_upto_region 5 with (go_at_call 186; refine (HOP.out.bad h2 hal (by omega) HY.out).mono ?_; rintro ex w3 ⟨hcd, ⟨z3, rfl⟩, hb3⟩)
   have cd0 : ((cd : Int) == 0) = false := by simp; omega
   have cd1 : ((cd : Int) != 0) = true := by simp; omega
   have h3 := h2.below hb3
   have hV3 := below_on hV2 hb3
   have ps3 := ps2.below hb3
   have pr3 := pr2.below hb3
   clear h2 hV2 ps2 pr2 y0 y1
   obtain ⟨y0, y1⟩ := ps3.duo
   obtain ⟨w4, hw4, pg24, hb4⟩ := made_blk w3 #[.int .i64 0, .string ⟨#[]⟩, .slice none 0 0, .bool false, .slice none 0 0, .slice none 0 0, .int .i64 z3, .int .i64 (cd : Nat), .int .i64 (p : Nat)] 56
   obtain ⟨g2, hg2⟩ : ∃ x, x = w3.heap.size := ⟨_, rfl⟩
   rw [← hw4, ← hg2]
   rw [← hg2] at pg24
   have lg2 : w.heap.size ≤ g2 := by have := hV3.size; omega
   have neg2 : g1 ≠ g2 := by have := pr3.lt; omega
   have nzg2 : g0 ≠ g2 := by have := ps3.lt; omega
   clear hw4 hg2
   have h4 := h3.below hb4
   have hV4 := below_on hV3 hb4
   have ps4 := ps3.below hb4
   have pr4 := pr3.below hb4
   clear h3 hV3 ps3 pr3 y0 y1
   obtain ⟨y0, y1⟩ := ps4.duo
   have qx := pg24.open9
   obtain ⟨⟨p0, p1, p2, p3, p4, p5, p6, p7, p8⟩, z0, z1, z2, z3, z4, z5, z6, z7, z8⟩ := pr4.open9
   go_wp2_with fail
   refine bodyPost_ret (results_rl rfl _ _ _ _ _ _ _ _ _ _ _ _ rfl (pr4.set9 _ _ _ _ _ _ _ _ _)) rfl ?_
   exact dans_bad (below_set9 hV4 hl1 _ _ _ _ _ _ _ _ _) hcd
  | ok u r =>
   rw [hY] at hXe
   have hXe : P.Rd.ok (P.nd 3 [u]) r = X := hXe
   subst hXe
   have HY := Lib.hid hY
   clear hX hY
   go_enter Tryz.func186, Tryz.ntmps186
   go_upto_region 1 with (fail)
   rw [← HW.out, ← HG1.out, ← HG0.out]
   obtain ⟨y0, y1⟩ := ps0.duo
   go_upto_region 2 with (go_at_call 64; refine (word_d h0 a ha1 _ rfl).mono ?_; rw [HX1.out]; rintro ex w1 ⟨rfl, hb1⟩)
   have h1 := h0.below hb1
   have hV1 := below_on hV0 hb1
   have ps1 := ps0.below hb1
   have pr1 := pr0.below hb1
   clear h0 hV0 ps0 pr0 y0 y1
   obtain ⟨y0, y1⟩ := ps1.duo
   go_upto_region 3 with (go_at_call 170; refine (kind_d h1 a ha1 _ rfl).mono ?_; rw [HK1.out]; rintro ex w2 ⟨rfl, hb2⟩)
   have h2 := h1.below hb2
   have hV2 := below_on hV1 hb2
   have ps2 := ps1.below hb2
   have pr2 := pr1.below hb2
   clear h1 hV1 ps1 pr1 y0 y1
   obtain ⟨y0, y1⟩ := ps2.duo
   go_upto_region 5 with (go_at_call 186; refine (HOP.out.ok h2 hal (by omega) HY.out).mono ?_; rintro ex w3 ⟨⟨A1, c1, A2, c2, A3, c3, a', rfl, rfl, ha', hin⟩, hb3⟩)
   obtain ⟨Ru, hRu⟩ : ∃ R : Nat → Prop, DR R0 w2.heap.size w3.heap.size = R := ⟨_, rfl⟩
   rw [hRu] at hin
   have hinu3 := hin
   clear hin
   have nug1 : ¬ Ru g1 := by
    rw [← hRu]
    rintro (h | ⟨h, _⟩)
    · have := hz0 _ h; omega
    · have := pr2.lt; omega
   have hqu : ∀ b, Ru b → b < w3.heap.size := by
    rw [← hRu]
    rintro b (h | ⟨_, h⟩)
    · have := hz0 _ h; have := hV2.size; have := hb3.size; omega
    · exact h
   have hwu : ∀ b, Ru b → R0 b ∨ w.heap.size ≤ b := by
    rw [← hRu]
    rintro b (h | ⟨h, _⟩)
    · exact .inl h
    · exact .inr (Nat.le_trans hV2.size h)
   clear hRu
   have h3 := h2.below hb3
   have hV3 := below_on hV2 hb3
   have ps3 := ps2.below hb3
   have pr3 := pr2.below hb3
   clear h2 hV2 ps2 pr2 y0 y1
   obtain ⟨y0, y1⟩ := ps3.duo
   obtain ⟨w4, hw4, pg24, hb4⟩ := made_blk w3 #[.int .i64 u.k, .string u.nm, .slice A1 u.ns.length c1, .bool u.ng, .slice A2 u.mg.length c2, .slice A3 u.ks.length c3, .int .i64 (a' : Nat), .int .i64 0, .int .i64 0] 56
   obtain ⟨g2, hg2⟩ : ∃ x, x = w3.heap.size := ⟨_, rfl⟩
   rw [← hw4, ← hg2]
   rw [← hg2] at pg24
   have lg2 : w.heap.size ≤ g2 := by have := hV3.size; omega
   have neg2 : g1 ≠ g2 := by have := pr3.lt; omega
   have nzg2 : g0 ≠ g2 := by have := ps3.lt; omega
   have nug2 : ¬ Ru g2 := fun h => by have := hqu _ h; omega
   have hinu4 := hinu3.below hb4
   replace hqu : ∀ b, Ru b → b < w4.heap.size := fun b h => Nat.lt_of_lt_of_le (hqu b h) hb4.size
   clear hw4 hg2
   have h4 := h3.below hb4
   have hV4 := below_on hV3 hb4
   have ps4 := ps3.below hb4
   have pr4 := pr3.below hb4
   clear h3 hV3 ps3 pr3 y0 y1
   obtain ⟨y0, y1⟩ := ps4.duo
   have HA := below_alloc1 w4 (.cells #[.int .i64 u.k, .string u.nm, .slice A1 u.ns.length c1, .bool u.ng, .slice A2 u.mg.length c2, .slice A3 u.ks.length c3] 28)
   have rv := pg24.open9
   have qx := (pg24.below HA).open9
   obtain ⟨⟨p0, p1, p2, p3, p4, p5, p6, p7, p8⟩, z0, z1, z2, z3, z4, z5, z6, z7, z8⟩ := (pr4.below HA).open9
   have ne' : ¬ (g2 = g1) := fun e => neg2 e.symm
   go_wp2_with fail
   refine bodyPost_ret (results_rl rfl _ _ _ _ _ _ _ _ _ _ _ _ rfl (((pr4.below HA).far6 neg2 _ _ _ _ _ _).set9 _ _ _ _ _ _ _ _ _)) rfl ?_
   exact dans_one hV4 hl1 lg2 pr4.lt pg24.lt hz0 hinu4 (fun b h => (hwu b h).imp id (fun h' => ⟨h', hqu b h⟩)) nug1 nug2 (Lm.nil _ _) ha' rfl
 rw [Bool.not_eq_true] at h1
 by_cases h2 : P.isW ⟨#[40]⟩ (ws.drop a) = true
 ·
  have hal : a + 1 ≤ ws.length := isW_lt h2
  rw [h1] at m1
  rw [h2] at m2
  simp only [P.step, h1, h2, if_true, Bool.false_eq_true, if_false, tail_drop] at hXe
  clear h1 h2 hX1 hK1
  cases hY : P.G e f .sum (ws.drop (a + 1)) with
  | out => rw [hY] at hXe; exact absurd hXe.symm hX
  | bad cd p =>
   rw [hY] at hXe
   have hXe : P.Rd.bad cd p = X := hXe
   subst hXe
   have HY := Lib.hid hY
   clear hX hY
   go_enter Tryz.func186, Tryz.ntmps186
   go_upto_region 1 with (fail)
   rw [← HW.out, ← HG1.out, ← HG0.out]
   obtain ⟨y0, y1⟩ := ps0.duo
   go_upto_region 2 with (go_at_call 64; refine (word_d h0 a ha1 _ rfl).mono ?_; rw [HX1.out]; rintro ex w1 ⟨rfl, hb1⟩)
   have h1 := h0.below hb1
   have hV1 := below_on hV0 hb1
   have ps1 := ps0.below hb1
   have pr1 := pr0.below hb1
   clear h0 hV0 ps0 pr0 y0 y1
   obtain ⟨y0, y1⟩ := ps1.duo
   go_upto_region 3 with (go_at_call 170; refine (kind_d h1 a ha1 _ rfl).mono ?_; rw [HK1.out]; rintro ex w2 ⟨rfl, hb2⟩)
   have h2 := h1.below hb2
   have hV2 := below_on hV1 hb2
   have ps2 := ps1.below hb2
   have pr2 := pr1.below hb2
   clear h1 hV1 ps1 pr1 y0 y1
   obtain ⟨y0, y1⟩ := ps2.duo
   go_upto_region 10 with (go_at_call 178; refine (HSM.out.bad h2 hal (by omega) HY.out).mono ?_; rintro ex w3 ⟨hcd, ⟨z3, rfl⟩, hb3⟩)
   have cd0 : ((cd : Int) == 0) = false := by simp; omega
   have cd1 : ((cd : Int) != 0) = true := by simp; omega
   have h3 := h2.below hb3
   have hV3 := below_on hV2 hb3
   have ps3 := ps2.below hb3
   have pr3 := pr2.below hb3
   clear h2 hV2 ps2 pr2 y0 y1
   obtain ⟨y0, y1⟩ := ps3.duo
   obtain ⟨w4, hw4, pg24, hb4⟩ := made_blk w3 #[.int .i64 0, .string ⟨#[]⟩, .slice none 0 0, .bool false, .slice none 0 0, .slice none 0 0, .int .i64 z3, .int .i64 (cd : Nat), .int .i64 (p : Nat)] 56
   obtain ⟨g2, hg2⟩ : ∃ x, x = w3.heap.size := ⟨_, rfl⟩
   rw [← hw4, ← hg2]
   rw [← hg2] at pg24
   have lg2 : w.heap.size ≤ g2 := by have := hV3.size; omega
   have neg2 : g1 ≠ g2 := by have := pr3.lt; omega
   have nzg2 : g0 ≠ g2 := by have := ps3.lt; omega
   clear hw4 hg2
   have h4 := h3.below hb4
   have hV4 := below_on hV3 hb4
   have ps4 := ps3.below hb4
   have pr4 := pr3.below hb4
   clear h3 hV3 ps3 pr3 y0 y1
   obtain ⟨y0, y1⟩ := ps4.duo
   have qx := pg24.open9
   obtain ⟨⟨p0, p1, p2, p3, p4, p5, p6, p7, p8⟩, z0, z1, z2, z3, z4, z5, z6, z7, z8⟩ := pr4.open9
   have ne' : ¬ (g2 = g1) := fun e => neg2 e.symm
   go_wp2_with fail
   refine bodyPost_ret (results_rl rfl _ _ _ _ _ _ _ _ _ _ _ _ rfl ((pr4.far neg2 6 _).set9 _ _ _ _ _ _ _ _ _)) rfl ?_
   exact dans_bad (below_set9 (hV4.setCell lg2 _) hl1 _ _ _ _ _ _ _ _ _) hcd
  | ok u r =>
   rw [hY] at hXe
   have hXe : (if P.isW ⟨#[41]⟩ r = true then P.Rd.ok u r.tail else P.wrong e r) = X := hXe
   have HY := Lib.hid hY
   clear hX hY
   go_enter Tryz.func186, Tryz.ntmps186
   go_upto_region 1 with (fail)
   rw [← HW.out, ← HG1.out, ← HG0.out]
   obtain ⟨y0, y1⟩ := ps0.duo
   go_upto_region 2 with (go_at_call 64; refine (word_d h0 a ha1 _ rfl).mono ?_; rw [HX1.out]; rintro ex w1 ⟨rfl, hb1⟩)
   have h1 := h0.below hb1
   have hV1 := below_on hV0 hb1
   have ps1 := ps0.below hb1
   have pr1 := pr0.below hb1
   clear h0 hV0 ps0 pr0 y0 y1
   obtain ⟨y0, y1⟩ := ps1.duo
   go_upto_region 3 with (go_at_call 170; refine (kind_d h1 a ha1 _ rfl).mono ?_; rw [HK1.out]; rintro ex w2 ⟨rfl, hb2⟩)
   have h2 := h1.below hb2
   have hV2 := below_on hV1 hb2
   have ps2 := ps1.below hb2
   have pr2 := pr1.below hb2
   clear h1 hV1 ps1 pr1 y0 y1
   obtain ⟨y0, y1⟩ := ps2.duo
   go_upto_region 10 with (go_at_call 178; refine (HSM.out.ok h2 hal (by omega) HY.out).mono ?_; rintro ex w3 ⟨⟨A1, c1, A2, c2, A3, c3, a', rfl, rfl, ha', hin⟩, hb3⟩)
   obtain ⟨Ru, hRu⟩ : ∃ R : Nat → Prop, DR R0 w2.heap.size w3.heap.size = R := ⟨_, rfl⟩
   rw [hRu] at hin
   have hinu3 := hin
   clear hin
   have nug1 : ¬ Ru g1 := by
    rw [← hRu]
    rintro (h | ⟨h, _⟩)
    · have := hz0 _ h; omega
    · have := pr2.lt; omega
   have hqu : ∀ b, Ru b → b < w3.heap.size := by
    rw [← hRu]
    rintro b (h | ⟨_, h⟩)
    · have := hz0 _ h; have := hV2.size; have := hb3.size; omega
    · exact h
   have hwu : ∀ b, Ru b → R0 b ∨ w.heap.size ≤ b := by
    rw [← hRu]
    rintro b (h | ⟨h, _⟩)
    · exact .inl h
    · exact .inr (Nat.le_trans hV2.size h)
   clear hRu
   have h3 := h2.below hb3
   have hV3 := below_on hV2 hb3
   have ps3 := ps2.below hb3
   have pr3 := pr2.below hb3
   clear h2 hV2 ps2 pr2 y0 y1
   obtain ⟨y0, y1⟩ := ps3.duo
   obtain ⟨w4, hw4, pg24, hb4⟩ := made_blk w3 #[.int .i64 u.k, .string u.nm, .slice A1 u.ns.length c1, .bool u.ng, .slice A2 u.mg.length c2, .slice A3 u.ks.length c3, .int .i64 (a' : Nat), .int .i64 0, .int .i64 0] 56
   obtain ⟨g2, hg2⟩ : ∃ x, x = w3.heap.size := ⟨_, rfl⟩
   rw [← hw4, ← hg2]
   rw [← hg2] at pg24
   have lg2 : w.heap.size ≤ g2 := by have := hV3.size; omega
   have neg2 : g1 ≠ g2 := by have := pr3.lt; omega
   have nzg2 : g0 ≠ g2 := by have := ps3.lt; omega
   have nug2 : ¬ Ru g2 := fun h => by have := hqu _ h; omega
   have hinu4 := hinu3.below hb4
   replace hqu : ∀ b, Ru b → b < w4.heap.size := fun b h => Nat.lt_of_lt_of_le (hqu b h) hb4.size
   clear hw4 hg2
   have h4 := h3.below hb4
   have hV4 := below_on hV3 hb4
   have ps4 := ps3.below hb4
   have pr4 := pr3.below hb4
   clear h3 hV3 ps3 pr3 y0 y1
   obtain ⟨y0, y1⟩ := ps4.duo
   obtain ⟨X2, hX2⟩ : ∃ x, P.tx (ws.drop a') = x := ⟨_, rfl⟩
   have m3 : (X2.toList == [41]) = P.isW ⟨#[41]⟩ (ws.drop a') := by rw [← hX2]; exact tx_beq ⟨#[41]⟩ (by decide) _
   have HX2 := Lib.hid hX2
   clear hX2
   by_cases h5 : P.isW ⟨#[41]⟩ (ws.drop a') = true
   ·
    have hal2 : a' + 1 ≤ ws.length := isW_lt h5
    rw [if_pos h5, tail_drop] at hXe
    rw [h5] at m3
    subst hXe
    have m4 : (X2.toList != [41]) = false := by rw [bne, m3]; rfl
    have wa2 : IntKind.i64.wrap ((a' : Int) + 1) = (a' : Int) + 1 := wrap_nat (by omega) (by omega)
    clear h5
    have rv := pg24.open9
    go_upto_region 12 with (go_at_call 64; refine (word_d h4 a' (by omega) _ rfl).mono ?_; rw [HX2.out]; rintro ex w5 ⟨rfl, hb5⟩; have qx := (pg24.below hb5).open9)
    have hinu5 := hinu4.below hb5
    replace hqu : ∀ b, Ru b → b < w5.heap.size := fun b h => Nat.lt_of_lt_of_le (hqu b h) hb5.size
    have h5 := h4.below hb5
    have hV5 := below_on hV4 hb5
    have ps5 := ps4.below hb5
    have pr5 := pr4.below hb5
    have pg25 := pg24.below hb5
    clear h4 hV4 ps4 pr4 y0 y1 pg24
    obtain ⟨y0, y1⟩ := ps5.duo
    obtain ⟨⟨p0, p1, p2, p3, p4, p5, p6, p7, p8⟩, z0, z1, z2, z3, z4, z5, z6, z7, z8⟩ := pr5.open9
    have ne' : ¬ (g2 = g1) := fun e => neg2 e.symm
    go_wp2_with fail
    refine bodyPost_ret (results_rl rfl _ _ _ _ _ _ _ _ _ _ _ _ rfl ((pr5.far neg2 6 _).set9 _ _ _ _ _ _ _ _ _)) rfl ?_
    exact dans_ok (a' := a' + 1) (below_set9 (hV5.setCell lg2 _) hl1 _ _ _ _ _ _ _ _ _) ((hinu5.far (fr1 _ _ _ _) nug2).far (fr9 _ _ _ _ _ _ _ _ _ _ _) nug1) hwu (fun b h => Nat.lt_of_lt_of_le (hqu b h) (Nat.le_trans (fr1 w5 g2 6 _).size (fr9 _ _ _ _ _ _ _ _ _ _ _).size)) hal2
   ·
    rw [Bool.not_eq_true] at h5
    rw [h5, if_neg (by decide)] at hXe
    rw [h5] at m3
    have m4 : (X2.toList != [41]) = true := by rw [bne, m3]; rfl
    clear h5
    have rv := pg24.open9
    go_wp2_with (first
     | (go_at_call 35; refine (wrong_d h5 a' (by omega) _ rfl).mono ?_; rintro ex w6 ⟨⟨cd, p, hwr, hcd, rfl⟩, hb6⟩; have hV6 := below_on hV5 hb6; have pr6 := pr5.below hb6; obtain ⟨⟨p0, p1, p2, p3, p4, p5, p6, p7, p8⟩, z0, z1, z2, z3, z4, z5, z6, z7, z8⟩ := pr6.open9)
     | (go_at_call 64; refine (word_d h4 a' (by omega) _ rfl).mono ?_; rw [HX2.out]; rintro ex w5 ⟨rfl, hb5⟩; have h5 := h4.below hb5; have hV5 := below_on hV4 hb5; have pr5 := pr4.below hb5; have ps5 := ps4.below hb5; obtain ⟨y0, y1⟩ := ps5.duo; have qx := (pg24.below hb5).open9))
    refine bodyPost_ret (results_rl rfl _ _ _ _ _ _ _ _ _ _ _ _ rfl (pr6.set9 _ _ _ _ _ _ _ _ _)) rfl ?_
    rw [← hXe, hwr]
    exact dans_bad (below_set9 hV6 hl1 _ _ _ _ _ _ _ _ _) hcd
 rw [Bool.not_eq_true] at h2
 rw [h1] at m1
 rw [h2] at m2
 by_cases h3 : K1 = 2
 ·
  subst h3
  have hlt := kd_lt hK1 (by decide)
  have hal : a + 1 ≤ ws.length := hlt
  simp only [P.step, h1, h2, hK1, hX1, if_true, Bool.false_eq_true, if_false, tail_drop] at hXe
  subst hXe
  clear h1 h2 hX1 hK1 hX
  go_enter Tryz.func186, Tryz.ntmps186
  go_upto_region 1 with (fail)
  rw [← HW.out, ← HG1.out, ← HG0.out]
  obtain ⟨y0, y1⟩ := ps0.duo
  go_upto_region 2 with (go_at_call 64; refine (word_d h0 a ha1 _ rfl).mono ?_; rw [HX1.out]; rintro ex w1 ⟨rfl, hb1⟩)
  have h1 := h0.below hb1
  have hV1 := below_on hV0 hb1
  have ps1 := ps0.below hb1
  have pr1 := pr0.below hb1
  clear h0 hV0 ps0 pr0 y0 y1
  obtain ⟨y0, y1⟩ := ps1.duo
  go_upto_region 3 with (go_at_call 170; refine (kind_d h1 a ha1 _ rfl).mono ?_; rw [HK1.out]; rintro ex w2 ⟨rfl, hb2⟩)
  have h2 := h1.below hb2
  have hV2 := below_on hV1 hb2
  have ps2 := ps1.below hb2
  have pr2 := pr1.below hb2
  clear h1 hV1 ps1 pr1 y0 y1
  obtain ⟨y0, y1⟩ := ps2.duo
  obtain ⟨⟨p0, p1, p2, p3, p4, p5, p6, p7, p8⟩, z0, z1, z2, z3, z4, z5, z6, z7, z8⟩ := pr2.open9
  go_wp2_with fail
  refine bodyPost_ret (results_rl rfl _ _ _ _ _ _ _ _ _ _ _ _ rfl (pr2.set9 _ _ _ _ _ _ _ _ _)) rfl ?_
  exact dans_ok (t := .node 2 X1 [] false [] []) (R := R0) (a' := a + 1) (below_set9 hV2 hl1 _ _ _ _ _ _ _ _ _) (in_leaf (R0 := R0) (fun _ h => h) (Lm.nil _ _)) (fun _ h => .inl h) (fun b h => Nat.lt_of_lt_of_le (h2.2.2 b h) (fr9 _ _ _ _ _ _ _ _ _ _ _).size) hal
 by_cases h4 : K1 = 1
 rotate_left
 ·
  have k2 : ((K1 : Int) == 2) = false := by simp; omega
  have k1 : ((K1 : Int) != 1) = true := by simp; omega
  simp only [P.step, h1, h2, hK1, if_neg h3, if_neg h4, Bool.false_eq_true, if_false] at hXe
  clear h1 h2 h3 h4 hX1 hK1 hX
  go_enter Tryz.func186, Tryz.ntmps186
  go_upto_region 1 with (fail)
  rw [← HW.out, ← HG1.out, ← HG0.out]
  obtain ⟨y0, y1⟩ := ps0.duo
  go_upto_region 2 with (go_at_call 64; refine (word_d h0 a ha1 _ rfl).mono ?_; rw [HX1.out]; rintro ex w1 ⟨rfl, hb1⟩)
  have h1 := h0.below hb1
  have hV1 := below_on hV0 hb1
  have ps1 := ps0.below hb1
  have pr1 := pr0.below hb1
  clear h0 hV0 ps0 pr0 y0 y1
  obtain ⟨y0, y1⟩ := ps1.duo
  go_upto_region 3 with (go_at_call 170; refine (kind_d h1 a ha1 _ rfl).mono ?_; rw [HK1.out]; rintro ex w2 ⟨rfl, hb2⟩)
  have h2 := h1.below hb2
  have hV2 := below_on hV1 hb2
  have ps2 := ps1.below hb2
  have pr2 := pr1.below hb2
  clear h1 hV1 ps1 pr1 y0 y1
  obtain ⟨y0, y1⟩ := ps2.duo
  go_wp2_with (go_at_call 35; refine (wrong_d h2 a ha1 _ rfl).mono ?_; rintro ex w3 ⟨⟨cd, p, hwr, hcd, rfl⟩, hb3⟩; have hV3 := below_on hV2 hb3; have pr3 := pr2.below hb3; obtain ⟨⟨p0, p1, p2, p3, p4, p5, p6, p7, p8⟩, z0, z1, z2, z3, z4, z5, z6, z7, z8⟩ := pr3.open9)
  refine bodyPost_ret (results_rl rfl _ _ _ _ _ _ _ _ _ _ _ _ rfl (pr3.set9 _ _ _ _ _ _ _ _ _)) rfl ?_
  rw [← hXe, hwr]
  exact dans_bad (below_set9 hV3 hl1 _ _ _ _ _ _ _ _ _) hcd
 ·
  subst h4
  have hlt := kd_lt hK1 (by decide)
  have hal : a + 1 ≤ ws.length := hlt
  have i0 : (0 : Int) ≤ (a : Int) := by omega
  have i1 : (a : Int) < ws.length := by omega
  have k2 : ((1 : Int) == 2) = false := rfl
  obtain ⟨⟨t1, t2, t3, t4⟩, ht⟩ : ∃ t, ws.getD a wd0 = t := ⟨_, rfl⟩
  have hmg : P.mg (ws.drop a) = t3 := by rw [P.mg_drop ws a hlt, ht]
  simp only [P.step, h1, h2, hK1, hmg, if_true, Bool.false_eq_true, if_false, tail_drop, show ((1 : Nat) = 2) = False by decide] at hXe
  obtain ⟨X2, hX2⟩ : ∃ x, P.tx (ws.drop (a + 1)) = x := ⟨_, rfl⟩
  have m3 : (X2.toList == [42]) = P.isW ⟨#[42]⟩ (ws.drop (a + 1)) := by rw [← hX2]; exact tx_beq ⟨#[42]⟩ (by decide) _
  have HX2 := Lib.hid hX2
  have HT := Lib.hid ht
  clear h1 h2 h3 hX1 hK1 hX2 hmg ht
  by_cases h5 : P.isW ⟨#[42]⟩ (ws.drop (a + 1)) = true
  rotate_left
  ·
   rw [Bool.not_eq_true] at h5
   rw [h5] at m3
   have m4 : (X2.toList != [42]) = true := by rw [bne, m3]; rfl
   simp only [h5, Bool.false_eq_true, if_false] at hXe
   subst hXe
   clear hX h5
   go_enter Tryz.func186, Tryz.ntmps186
   go_upto_region 1 with (fail)
   rw [← HW.out, ← HG1.out, ← HG0.out]
   obtain ⟨y0, y1⟩ := ps0.duo
   go_upto_region 2 with (go_at_call 64; refine (word_d h0 a ha1 _ rfl).mono ?_; rw [HX1.out]; rintro ex w1 ⟨rfl, hb1⟩)
   have h1 := h0.below hb1
   have hV1 := below_on hV0 hb1
   have ps1 := ps0.below hb1
   have pr1 := pr0.below hb1
   clear h0 hV0 ps0 pr0 y0 y1
   obtain ⟨y0, y1⟩ := ps1.duo
   go_upto_region 3 with (go_at_call 170; refine (kind_d h1 a ha1 _ rfl).mono ?_; rw [HK1.out]; rintro ex w2 ⟨rfl, hb2⟩)
   have h2 := h1.below hb2
   have hV2 := below_on hV1 hb2
   have ps2 := ps1.below hb2
   have pr2 := pr1.below hb2
   clear h1 hV1 ps1 pr1 y0 y1
   obtain ⟨y0, y1⟩ := ps2.duo
   have hwd := h2.1
   unfold Wds at hwd
   obtain ⟨g, hA, _, hwc⟩ := hwd (by omega)
   subst hA
   obtain ⟨B, d, _, _, e2, e3, _, hlm⟩ := hwc a hlt
   rw [HT.out] at e3 hlm
   dsimp only at e3 hlm
   clear hwd hwc
   go_upto_region 19 with (fail)
   obtain ⟨w3, hw3, pn3, hb3⟩ := made_blk w2 #[.bool false, .slice B t3.length d] 25
   obtain ⟨g3, hg3⟩ : ∃ x, x = w2.heap.size := ⟨_, rfl⟩
   rw [← hw3, ← hg3]
   rw [← hg3] at pn3
   have lg3 : w.heap.size ≤ g3 := by have := hV2.size; omega
   have neg3 : g1 ≠ g3 := by have := pr2.lt; omega
   clear hw3 hg3 e2 e3
   have hlm3 := hlm.keep (Kp.of_below hb3)
   have h3 := h2.below hb3
   have hV3 := below_on hV2 hb3
   have ps3 := ps2.below hb3
   have pr3 := pr2.below hb3
   clear h2 hV2 ps2 pr2 y0 y1
   obtain ⟨y0, y1⟩ := ps3.duo
   go_upto_region 20 with (go_at_call 64; refine (word_d h3 (a + 1) (by omega) _ rfl).mono ?_; rw [HX2.out]; rintro ex w4 ⟨rfl, hb4⟩)
   have hlm4 := hlm3.keep (Kp.of_below hb4)
   clear hlm hlm3
   have h4 := h3.below hb4
   have hV4 := below_on hV3 hb4
   have ps4 := ps3.below hb4
   have pr4 := pr3.below hb4
   have pn4 := pn3.below hb4
   clear h3 hV3 ps3 pr3 y0 y1 pn3
   obtain ⟨y0, y1⟩ := ps4.duo
   obtain ⟨⟨p0, p1, p2, p3, p4, p5, p6, p7, p8⟩, z0, z1, z2, z3, z4, z5, z6, z7, z8⟩ := pr4.open9
   obtain ⟨n0, n1⟩ := pn4.duo
   go_wp2_with fail
   refine bodyPost_ret (results_rl rfl _ _ _ _ _ _ _ _ _ _ _ _ rfl (pr4.set9 _ _ _ _ _ _ _ _ _)) rfl ?_
   exact dans_ok (t := .node 1 ⟨#[]⟩ [] false t3 []) (R := R0) (a' := a + 1) (below_set9 hV4 hl1 _ _ _ _ _ _ _ _ _) (in_leaf (R0 := R0) (fun _ h => h) (hlm4.far (fr9 _ _ _ _ _ _ _ _ _ _ _) (fun h => by have := hz0 _ h; omega))) (fun _ h => .inl h) (fun b h => Nat.lt_of_lt_of_le (h4.2.2 b h) (fr9 _ _ _ _ _ _ _ _ _ _ _).size) hal
  ·
   rw [h5] at m3
   have hal2 : a + 2 ≤ ws.length := isW_lt h5
   have wa2 : IntKind.i64.wrap ((a : Int) + 2) = (a : Int) + 2 := wrap_nat (by omega) (by omega)
   have m4 : (X2.toList != [42]) = false := by rw [bne, m3]; rfl
   simp only [h5, if_true] at hXe
   rw [show a + 1 + 1 = a + 2 from rfl] at hXe
   clear h5
   cases hY : P.G e f .oper (ws.drop (a + 2)) with
   | out => rw [hY] at hXe; exact absurd hXe.symm hX
   | bad cd p =>
    rw [hY] at hXe
    have hXe : P.Rd.bad cd p = X := hXe
    subst hXe
    have HY := Lib.hid hY
    clear hX hY
    go_enter Tryz.func186, Tryz.ntmps186
    go_upto_region 1 with (fail)
    rw [← HW.out, ← HG1.out, ← HG0.out]
    obtain ⟨y0, y1⟩ := ps0.duo
    go_upto_region 2 with (go_at_call 64; refine (word_d h0 a ha1 _ rfl).mono ?_; rw [HX1.out]; rintro ex w1 ⟨rfl, hb1⟩)
    have h1 := h0.below hb1
    have hV1 := below_on hV0 hb1
    have ps1 := ps0.below hb1
    have pr1 := pr0.below hb1
    clear h0 hV0 ps0 pr0 y0 y1
    obtain ⟨y0, y1⟩ := ps1.duo
    go_upto_region 3 with (go_at_call 170; refine (kind_d h1 a ha1 _ rfl).mono ?_; rw [HK1.out]; rintro ex w2 ⟨rfl, hb2⟩)
    have h2 := h1.below hb2
    have hV2 := below_on hV1 hb2
    have ps2 := ps1.below hb2
    have pr2 := pr1.below hb2
    clear h1 hV1 ps1 pr1 y0 y1
    obtain ⟨y0, y1⟩ := ps2.duo
    have hwd := h2.1
    unfold Wds at hwd
    obtain ⟨g, hA, _, hwc⟩ := hwd (by omega)
    subst hA
    obtain ⟨B, d, _, _, e2, e3, _, hlm⟩ := hwc a hlt
    rw [HT.out] at e3 hlm
    dsimp only at e3 hlm
    clear hwd hwc
    go_upto_region 19 with (fail)
    obtain ⟨w3, hw3, pn3, hb3⟩ := made_blk w2 #[.bool false, .slice B t3.length d] 25
    obtain ⟨g3, hg3⟩ : ∃ x, x = w2.heap.size := ⟨_, rfl⟩
    rw [← hw3, ← hg3]
    rw [← hg3] at pn3
    have lg3 : w.heap.size ≤ g3 := by have := hV2.size; omega
    have neg3 : g1 ≠ g3 := by have := pr2.lt; omega
    clear hw3 hg3 e2 e3
    have hlm3 := hlm.keep (Kp.of_below hb3)
    have h3 := h2.below hb3
    have hV3 := below_on hV2 hb3
    have ps3 := ps2.below hb3
    have pr3 := pr2.below hb3
    clear h2 hV2 ps2 pr2 y0 y1
    obtain ⟨y0, y1⟩ := ps3.duo
    go_upto_region 21 with (go_at_call 64; refine (word_d h3 (a + 1) (by omega) _ rfl).mono ?_; rw [HX2.out]; rintro ex w4 ⟨rfl, hb4⟩)
    have hlm4 := hlm3.keep (Kp.of_below hb4)
    clear hlm hlm3
    have h4 := h3.below hb4
    have hV4 := below_on hV3 hb4
    have ps4 := ps3.below hb4
    have pr4 := pr3.below hb4
    have pn4 := pn3.below hb4
    clear h3 hV3 ps3 pr3 y0 y1 pn3
    obtain ⟨y0, y1⟩ := ps4.duo
    go_upto_region 22 with (go_at_call 186; refine (HOP.out.bad h4 hal2 (by omega) HY.out).mono ?_; rintro ex w5 ⟨hcd, ⟨z3, rfl⟩, hb5⟩)
    have cd0 : ((cd : Int) == 0) = false := by simp; omega
    have cd1 : ((cd : Int) != 0) = true := by simp; omega
    have h5 := h4.below hb5
    have hV5 := below_on hV4 hb5
    have ps5 := ps4.below hb5
    have pr5 := pr4.below hb5
    clear h4 hV4 ps4 pr4 y0 y1
    obtain ⟨y0, y1⟩ := ps5.duo
    obtain ⟨w6, hw6, pg26, hb6⟩ := made_blk w5 #[.int .i64 0, .string ⟨#[]⟩, .slice none 0 0, .bool false, .slice none 0 0, .slice none 0 0, .int .i64 z3, .int .i64 (cd : Nat), .int .i64 (p : Nat)] 56
    obtain ⟨g2, hg2⟩ : ∃ x, x = w5.heap.size := ⟨_, rfl⟩
    rw [← hw6, ← hg2]
    rw [← hg2] at pg26
    have lg2 : w.heap.size ≤ g2 := by have := hV5.size; omega
    have neg2 : g1 ≠ g2 := by have := pr5.lt; omega
    have nzg2 : g0 ≠ g2 := by have := ps5.lt; omega
    clear hw6 hg2
    have h6 := h5.below hb6
    have hV6 := below_on hV5 hb6
    have ps6 := ps5.below hb6
    have pr6 := pr5.below hb6
    clear h5 hV5 ps5 pr5 y0 y1
    obtain ⟨y0, y1⟩ := ps6.duo
    have qx := pg26.open9
    obtain ⟨⟨p0, p1, p2, p3, p4, p5, p6, p7, p8⟩, z0, z1, z2, z3, z4, z5, z6, z7, z8⟩ := pr6.open9
    go_wp2_with fail
    refine bodyPost_ret (results_rl rfl _ _ _ _ _ _ _ _ _ _ _ _ rfl (pr6.set9 _ _ _ _ _ _ _ _ _)) rfl ?_
    exact dans_bad (below_set9 hV6 hl1 _ _ _ _ _ _ _ _ _) hcd
   | ok u r =>
    rw [hY] at hXe
    have hXe : P.Rd.ok (.node 6 ⟨#[]⟩ [] false t3 [u]) r = X := hXe
    subst hXe
    have HY := Lib.hid hY
    clear hX hY
    go_enter Tryz.func186, Tryz.ntmps186
    go_upto_region 1 with (fail)
    rw [← HW.out, ← HG1.out, ← HG0.out]
    obtain ⟨y0, y1⟩ := ps0.duo
    go_upto_region 2 with (go_at_call 64; refine (word_d h0 a ha1 _ rfl).mono ?_; rw [HX1.out]; rintro ex w1 ⟨rfl, hb1⟩)
    have h1 := h0.below hb1
    have hV1 := below_on hV0 hb1
    have ps1 := ps0.below hb1
    have pr1 := pr0.below hb1
    clear h0 hV0 ps0 pr0 y0 y1
    obtain ⟨y0, y1⟩ := ps1.duo
    go_upto_region 3 with (go_at_call 170; refine (kind_d h1 a ha1 _ rfl).mono ?_; rw [HK1.out]; rintro ex w2 ⟨rfl, hb2⟩)
    have h2 := h1.below hb2
    have hV2 := below_on hV1 hb2
    have ps2 := ps1.below hb2
    have pr2 := pr1.below hb2
    clear h1 hV1 ps1 pr1 y0 y1
    obtain ⟨y0, y1⟩ := ps2.duo
    have hwd := h2.1
    unfold Wds at hwd
    obtain ⟨g, hA, _, hwc⟩ := hwd (by omega)
    subst hA
    obtain ⟨B, d, _, _, e2, e3, _, hlm⟩ := hwc a hlt
    rw [HT.out] at e3 hlm
    dsimp only at e3 hlm
    clear hwd hwc
    go_upto_region 19 with (fail)
    obtain ⟨w3, hw3, pn3, hb3⟩ := made_blk w2 #[.bool false, .slice B t3.length d] 25
    obtain ⟨g3, hg3⟩ : ∃ x, x = w2.heap.size := ⟨_, rfl⟩
    rw [← hw3, ← hg3]
    rw [← hg3] at pn3
    have lg3 : w.heap.size ≤ g3 := by have := hV2.size; omega
    have neg3 : g1 ≠ g3 := by have := pr2.lt; omega
    clear hw3 hg3 e2 e3
    have hlm3 := hlm.keep (Kp.of_below hb3)
    have h3 := h2.below hb3
    have hV3 := below_on hV2 hb3
    have ps3 := ps2.below hb3
    have pr3 := pr2.below hb3
    clear h2 hV2 ps2 pr2 y0 y1
    obtain ⟨y0, y1⟩ := ps3.duo
    go_upto_region 21 with (go_at_call 64; refine (word_d h3 (a + 1) (by omega) _ rfl).mono ?_; rw [HX2.out]; rintro ex w4 ⟨rfl, hb4⟩)
    have hlm4 := hlm3.keep (Kp.of_below hb4)
    clear hlm hlm3
    have h4 := h3.below hb4
    have hV4 := below_on hV3 hb4
    have ps4 := ps3.below hb4
    have pr4 := pr3.below hb4
    have pn4 := pn3.below hb4
    clear h3 hV3 ps3 pr3 y0 y1 pn3
    obtain ⟨y0, y1⟩ := ps4.duo
    go_upto_region 22 with (go_at_call 186; refine (HOP.out.ok h4 hal2 (by omega) HY.out).mono ?_; rintro ex w5 ⟨⟨A1, c1, A2, c2, A3, c3, a', rfl, rfl, ha', hin⟩, hb5⟩)
    obtain ⟨Ru, hRu⟩ : ∃ R : Nat → Prop, DR R0 w4.heap.size w5.heap.size = R := ⟨_, rfl⟩
    rw [hRu] at hin
    have hinu5 := hin
    clear hin
    have nug1 : ¬ Ru g1 := by
     rw [← hRu]
     rintro (h | ⟨h, _⟩)
     · have := hz0 _ h; omega
     · have := pr4.lt; omega
    have hqu : ∀ b, Ru b → b < w5.heap.size := by
     rw [← hRu]
     rintro b (h | ⟨_, h⟩)
     · have := hz0 _ h; have := hV4.size; have := hb5.size; omega
     · exact h
    have hwu : ∀ b, Ru b → R0 b ∨ w.heap.size ≤ b := by
     rw [← hRu]
     rintro b (h | ⟨h, _⟩)
     · exact .inl h
     · exact .inr (Nat.le_trans hV4.size h)
    clear hRu
    have h5 := h4.below hb5
    have hV5 := below_on hV4 hb5
    have ps5 := ps4.below hb5
    have pr5 := pr4.below hb5
    have pn5 := pn4.below hb5
    clear h4 hV4 ps4 pr4 y0 y1 pn4
    obtain ⟨y0, y1⟩ := ps5.duo
    obtain ⟨w6, hw6, pg26, hb6⟩ := made_blk w5 #[.int .i64 u.k, .string u.nm, .slice A1 u.ns.length c1, .bool u.ng, .slice A2 u.mg.length c2, .slice A3 u.ks.length c3, .int .i64 (a' : Nat), .int .i64 0, .int .i64 0] 56
    obtain ⟨g2, hg2⟩ : ∃ x, x = w5.heap.size := ⟨_, rfl⟩
    rw [← hw6, ← hg2]
    rw [← hg2] at pg26
    have lg2 : w.heap.size ≤ g2 := by have := hV5.size; omega
    have neg2 : g1 ≠ g2 := by have := pr5.lt; omega
    have nzg2 : g0 ≠ g2 := by have := ps5.lt; omega
    have nug2 : ¬ Ru g2 := fun h => by have := hqu _ h; omega
    have hinu6 := hinu5.below hb6
    replace hqu : ∀ b, Ru b → b < w6.heap.size := fun b h => Nat.lt_of_lt_of_le (hqu b h) hb6.size
    clear hw6 hg2
    have h6 := h5.below hb6
    have hV6 := below_on hV5 hb6
    have ps6 := ps5.below hb6
    have pr6 := pr5.below hb6
    have pn6 := pn5.below hb6
    clear h5 hV5 ps5 pr5 y0 y1 pn5
    obtain ⟨y0, y1⟩ := ps6.duo
    obtain ⟨n0, n1⟩ := (pn6.below (below_alloc1 w6 (.cells #[.int .i64 u.k, .string u.nm, .slice A1 u.ns.length c1, .bool u.ng, .slice A2 u.mg.length c2, .slice A3 u.ks.length c3] 28))).duo
    obtain ⟨n2, n3⟩ := pn6.duo
    have hlm6 := (hlm4.keep (Kp.of_below hb5)).keep (Kp.of_below hb6)
    have HA := below_alloc1 w6 (.cells #[.int .i64 u.k, .string u.nm, .slice A1 u.ns.length c1, .bool u.ng, .slice A2 u.mg.length c2, .slice A3 u.ks.length c3] 28)
    have rv := pg26.open9
    have qx := (pg26.below HA).open9
    obtain ⟨⟨p0, p1, p2, p3, p4, p5, p6, p7, p8⟩, z0, z1, z2, z3, z4, z5, z6, z7, z8⟩ := (pr6.below HA).open9
    have ne' : ¬ (g2 = g1) := fun e => neg2 e.symm
    go_wp2_with fail
    refine bodyPost_ret (results_rl rfl _ _ _ _ _ _ _ _ _ _ _ _ rfl (((pr6.below HA).far6 neg2 _ _ _ _ _ _).set9 _ _ _ _ _ _ _ _ _)) rfl ?_
    exact dans_one hV6 hl1 lg2 pr6.lt pg26.lt hz0 hinu6 (fun b h => (hwu b h).imp id (fun h' => ⟨h', hqu b h⟩)) nug1 nug2 hlm6 ha' rfl
end
end
section
open Go.RowKit
section
variable {R0 : Nat → Prop} {A : Option Addr} {c e : Nat} {ws : List Wd}
def AllD (R0 : Nat → Prop) (A : Option Addr) (c : Nat) (ws : List Wd) (e f : Nat) : Prop :=
 DRule R0 A c ws e f .form 34 ∧ DRule R0 A c ws e f .impl 63 ∧ DRule R0 A c ws e f .ored 104 ∧ DRule R0 A c ws e f .anded 139 ∧ DRule R0 A c ws e f .notted 157 ∧ DRule R0 A c ws e f .prim 169 ∧ DRule R0 A c ws e f .sum 178 ∧ DRule R0 A c ws e f .oper 186
theorem drule0 (nt : P.NT) (fn : Nat) : DRule R0 A c ws e 0 nt fn := fun _ _ _ _ _ _ h => absurd rfl h
theorem all_d : ∀ (f f' : Nat), f' ≤ f → AllD R0 A c ws e f'
 | 0, f', h => by
  obtain rfl : f' = 0 := by omega
  exact ⟨drule0 _ _, drule0 _ _, drule0 _ _, drule0 _ _, drule0 _ _, drule0 _ _, drule0 _ _, drule0 _ _⟩
 | f + 1, f', h => by
  have ih := all_d f
  by_cases hf : f' ≤ f
  · exact ih f' hf
  · obtain rfl : f' = f + 1 := by omega
    obtain ⟨h1, h2, h3, h4, h5, h6, h7, h8⟩ := ih f (Nat.le_refl _)
    exact ⟨form_d f (fun g hg => (ih g hg).2.1), impl_d f h3 h2, or_d f (fun g hg => (ih g hg).2.2.2.1), and_d f (fun g hg => (ih g hg).2.2.2.2.1), notted_d f h5 h6 h1, prim_d f h1 h7, sum_d f (fun g hg => (ih g hg).2.2.2.2.2.2.2), oper_d f h8 h7⟩
theorem formula_d (f : Nat) : DRule R0 A c ws e f .form 34 := (all_d f f (Nat.le_refl _)).1
end
end
section
open Go.RowKit
attribute [local go_sem] Oper.semAt_some
theorem tok_cellsR {w : World} {base : Nat} {v : Value} {rs : List Tk} {l : List UInt8} {ps : List (Nat × Nat × Nat)} (hown : OutR w base v rs) (htk : Toks w base l rs ps) (hn : 0 < ps.length) : ∃ g cap, v = .slice (some ⟨g, 0, none⟩) ps.length cap ∧ ∀ i, i < ps.length → ∃ A n c,
    w.cell? ⟨g, i * 5, none⟩ = some (.int .i64 ((ps.getD i (0, 0, 0)).1 : Nat)) ∧ w.cell? ⟨g, i * 5 + 1, none⟩ = some (.string ⟨((l.drop (ps.getD i (0, 0, 0)).2.1).take (ps.getD i (0, 0, 0)).2.2).toArray⟩) ∧ w.cell? ⟨g, i * 5 + 2, none⟩ = some (.bool false) ∧ w.cell? ⟨g, i * 5 + 3, none⟩ = some (.slice A n c) ∧
    w.cell? ⟨g, i * 5 + 4, none⟩ = some (.int .i64 ((ps.getD i (0, 0, 0)).2.1 : Nat)) ∧ MagOf base w (.slice A n c) (ps.getD i (0, 0, 0)).1 ((l.drop (ps.getD i (0, 0, 0)).2.1).take (ps.getD i (0, 0, 0)).2.2) := by
  obtain ⟨g, cap, hv, hc⟩ := hown.cells (by rw [htk.1]; exact hn)
  rw [htk.1] at hv
  refine ⟨g, cap, hv, fun i hi => ?_⟩
  obtain ⟨h1, h2, h3, h4⟩ := htk.2 i hi
  have hcc := hc i (by rw [htk.1]; exact hi)
  obtain ⟨⟨k, T, m, p⟩, hr⟩ : ∃ r, rs.getD i tk0 = r := ⟨_, rfl⟩
  rw [hr] at h1 h2 h3 h4 hcc
  dsimp only at h1 h2 h3 h4
  rw [h1, h3] at h4
  have hT := bytes_ext h3
  have hm : ∃ A n c, m = .slice A n c := by
   unfold MagOf at h4
   split at h4
   · obtain ⟨g', n, c, e, _⟩ := h4; exact ⟨_, _, _, e⟩
   · exact ⟨_, _, _, h4⟩
  obtain ⟨A, n, c, rfl⟩ := hm
  refine ⟨A, n, c, ?_, ?_, ?_, ?_, ?_, h4⟩
  · have := hcc 0 (by omega); rw [Nat.add_zero] at this; rw [this, ← h1]; rfl
  · rw [hcc 1 (by omega), ← hT]; rfl
  · rw [hcc 2 (by omega)]; rfl
  · rw [hcc 3 (by omega)]; rfl
  · rw [hcc 4 (by omega), ← h2]; rfl
theorem wds_tokR {w : World} {base c : Nat} {A : Option Addr} {rs : List Tk} {l : List UInt8} {ps : List (Nat × Nat × Nat)} {R0 : Nat → Prop} (hown : OutR w base (.slice A ps.length c) rs) (htk : Toks w base l rs ps) (hR : ∀ b, base ≤ b → b < w.heap.size → R0 b) : Wds w R0 A (X.tks l ps) := fun hn => by
 rw [X.tks_len] at hn
 obtain ⟨g, cap, e, hc⟩ := tok_cellsR hown htk hn
 injection e with e1 _ _
 subst e1
 have hb := hown.base (b := g) rfl
 refine ⟨g, rfl, hR g hb.1 hb.2, fun i hi => ?_⟩
 rw [X.tks_len] at hi
 obtain ⟨B, m, d, h0, h1, h2, h3, h4, h5⟩ := hc i hi
 obtain ⟨hm, hlm⟩ := mag_lm h5 hR
 rw [X.tks_get _ _ _ hi]
 exact ⟨B, d, h0, h1, h2, by rw [h3, hm], h4, hlm⟩
theorem results_zero (w : World) (R : Nat → Prop) : T.In w R t0 (.agg #[.int .i64 0, .string ⟨#[]⟩, .slice none 0 0, .bool false, .slice none 0 0, .slice none 0 0]) := in_leaf (R0 := fun _ => False) (k := 0) (nm := ⟨#[]⟩) (mg := []) (fun _ h => h.elim) (Lm.nil _ _)
set_option maxRecDepth 100000 in
set_option maxHeartbeats 6400000 in
theorem rparse_long (w : World) (S : ByteArray) (hS : 4096 < S.size) :
    Calls Tryz.prog 11 #[.string S] w fun ex w' => ∃ A1 c1 A2 c2 A3 c3, ex = .returned (.tuple #[.agg #[.int .i64 t0.k, .string t0.nm, .slice A1 t0.ns.length c1, .bool t0.ng, .slice A2 t0.mg.length c2, .slice A3 t0.ks.length c3], .agg #[.int .i64 ((40 : Nat) : Int), .int .i64 ((0 : Nat) : Int)]]) ∧ T.In w' (fun b => b < w'.heap.size) t0 (.agg #[.int .i64 t0.k, .string t0.nm, .slice A1 t0.ns.length c1, .bool t0.ng, .slice A2 t0.mg.length c2, .slice A3 t0.ks.length c3]) ∧ Below w.heap.size w w' := by
  obtain ⟨W, hW, p2, p3, hsz, hbW⟩ := enter_p w
  obtain ⟨b2, hb2⟩ : ∃ b, b = w.heap.size := ⟨_, rfl⟩
  obtain ⟨b3, hb3⟩ : ∃ b, b = w.heap.size + 1 := ⟨_, rfl⟩
  rw [← hb2] at p2
  rw [← hb3] at p3
  have hn23 : b2 ≠ b3 := by omega
  have l2 : w.heap.size ≤ b2 := by omega
  have l3 : w.heap.size ≤ b3 := by omega
  have HW := Lib.hid hW
  have HB2 := Lib.hid hb2
  have HB3 := Lib.hid hb3
  clear hW hb2 hb3 hsz
  have d1 : decide ((4096 : Int) < S.size) = true := decide_eq_true (by omega)
  have d2 : decide ((S.size : Int) > 4096) = true := decide_eq_true (by omega)
  go_enter Tryz.func11, Tryz.ntmps11
  go_upto_region 1 with (fail)
  rw [← HW.out, ← HB3.out, ← HB2.out]
  have qx := p2.open6
  obtain ⟨⟨r0, r1⟩, y0, y1⟩ := p3.facts2
  go_wp2_with fail
  refine bodyPost_ret (results_p rfl _ _ _ _ _ _ _ _ _ _ _ _ rfl rfl (((p2.set6 _ _ _ _ _ _).far hn23 _ _).far hn23 _ _) (((((((p3.far hn23.symm _ _).far hn23.symm _ _).far hn23.symm _ _).far hn23.symm _ _).far hn23.symm _ _).far hn23.symm _ _).set2 _ _)) rfl ?_
  exact ⟨none, 0, none, 0, none, 0, rfl, results_zero _ _, ((((((((hbW.setCell l2 _).setCell l2 _).setCell l2 _).setCell l2 _).setCell l2 _).setCell l2 _).setCell l3 _).setCell l3 _)⟩
set_option maxRecDepth 100000 in
set_option maxHeartbeats 6400000 in
theorem rparse_err (w : World) (S : ByteArray) (hS : S.size ≤ 4096) (hc : (X.ans S.data.toList).2.1 ≠ 0) :
    Calls Tryz.prog 11 #[.string S] w fun ex w' => ∃ A1 c1 A2 c2 A3 c3, ex = .returned (.tuple #[.agg #[.int .i64 t0.k, .string t0.nm, .slice A1 t0.ns.length c1, .bool t0.ng, .slice A2 t0.mg.length c2, .slice A3 t0.ks.length c3], .agg #[.int .i64 ((X.ans S.data.toList).2.1 : Nat), .int .i64 ((X.ans S.data.toList).2.2 : Nat)]]) ∧ T.In w' (fun b => b < w'.heap.size) t0 (.agg #[.int .i64 t0.k, .string t0.nm, .slice A1 t0.ns.length c1, .bool t0.ng, .slice A2 t0.mg.length c2, .slice A3 t0.ks.length c3]) ∧ Below w.heap.size w w' := by
  obtain ⟨W, hW, p2, p3, hsz, hbW⟩ := enter_p w
  obtain ⟨b2, hb2⟩ : ∃ b, b = w.heap.size := ⟨_, rfl⟩
  obtain ⟨b3, hb3⟩ : ∃ b, b = w.heap.size + 1 := ⟨_, rfl⟩
  rw [← hb2] at p2
  rw [← hb3] at p3
  have hn23 : b2 ≠ b3 := by omega
  have l2 : w.heap.size ≤ b2 := by omega
  have l3 : w.heap.size ≤ b3 := by omega
  have HW := Lib.hid hW
  have HB2 := Lib.hid hb2
  have HB3 := Lib.hid hb3
  clear hW hb2 hb3 hsz
  have d1 : decide ((4096 : Int) < S.size) = false := decide_eq_false (by omega)
  have d2 : decide ((S.size : Int) > 4096) = false := decide_eq_false (by omega)
  obtain ⟨⟨t1, cd, pp⟩, ht⟩ : ∃ t, X.ans S.data.toList = t := ⟨_, rfl⟩
  rw [ht] at hc ⊢
  dsimp only at hc ⊢
  have HT := Lib.hid ht
  have hc1 : ((cd : Int) != 0) = true := by simp; omega
  clear ht hc
  go_enter Tryz.func11, Tryz.ntmps11
  go_upto_region 1 with (fail)
  rw [← HW.out, ← HB3.out, ← HB2.out]
  go_upto_region 4 with (go_at_call 33; refine (rtokens_r _ S).mono ?_; rw [HT.out]; dsimp only; rintro ex w1 ⟨v, rs, rfl, hown, htk, hb1⟩)
  obtain ⟨w2, hw2, pm2, hb2'⟩ := made_blk w1 #[.int .i64 (cd : Nat), .int .i64 (pp : Nat)] 31
  obtain ⟨bm, hbm⟩ : ∃ x, x = w1.heap.size := ⟨_, rfl⟩
  rw [← hw2, ← hbm]
  rw [← hbm] at pm2
  clear hw2
  have hb02 := below_on (below_on hbW hb1) hb2'
  have p22 := (p2.below hb1).below hb2'
  have p32 := (p3.below hb1).below hb2'
  have qx := p22.open6
  obtain ⟨⟨r0, r1⟩, y0, y1⟩ := p32.facts2
  obtain ⟨m0, m1⟩ := pm2.duo
  have nm2 : ¬ (b2 = bm) := by have := (p2.below hb1).lt; omega
  have nm3 : ¬ (b3 = bm) := by have := (p3.below hb1).lt; omega
  clear hbm
  go_upto_region 5 with (fail)
  go_region
  all_goals
   go_wp2_with fail
   refine bodyPost_ret (results_p rfl _ _ _ _ _ _ _ _ _ _ _ _ rfl rfl ((((p22.set6 _ _ _ _ _ _).far hn23 _ _).far hn23 _ _).drew) ((((((((p32.far hn23.symm _ _).far hn23.symm _ _).far hn23.symm _ _).far hn23.symm _ _).far hn23.symm _ _).far hn23.symm _ _).set2 _ _).drew)) rfl ?_
   exact ⟨none, 0, none, 0, none, 0, rfl, results_zero _ _, ((((((((hb02.setCell l2 _).setCell l2 _).setCell l2 _).setCell l2 _).setCell l2 _).setCell l2 _).setCell l3 _).setCell l3 _).drew⟩
set_option maxRecDepth 100000 in
set_option maxHeartbeats 6400000 in
theorem rparse_main (w : World) (S : ByteArray) (hS : S.size ≤ 4096) (hc : (X.ans S.data.toList).2.1 = 0) (hpp : (X.ans S.data.toList).2.2 = 0) (hln : (X.ans S.data.toList).1.length ≤ 4096)
    (hbk : ∀ t r, P.G S.size (P.fuel (X.tks S.data.toList (X.ans S.data.toList).1)) .form (X.tks S.data.toList (X.ans S.data.toList).1) = .ok t r → t.bulk ≤ 1048576) :
    Calls Tryz.prog 11 #[.string S] w fun ex w' => ∃ A1 c1 A2 c2 A3 c3, ex = .returned (.tuple #[.agg #[.int .i64 (P.res S).2.2.k, .string (P.res S).2.2.nm, .slice A1 (P.res S).2.2.ns.length c1, .bool (P.res S).2.2.ng, .slice A2 (P.res S).2.2.mg.length c2, .slice A3 (P.res S).2.2.ks.length c3], .agg #[.int .i64 ((P.res S).1 : Nat), .int .i64 ((P.res S).2.1 : Nat)]]) ∧ T.In w' (fun b => b < w'.heap.size) (P.res S).2.2 (.agg #[.int .i64 (P.res S).2.2.k, .string (P.res S).2.2.nm, .slice A1 (P.res S).2.2.ns.length c1, .bool (P.res S).2.2.ng, .slice A2 (P.res S).2.2.mg.length c2, .slice A3 (P.res S).2.2.ks.length c3]) ∧ Below w.heap.size w w' := by
  have hres : P.res S = P.resOf (P.read S.size (X.tks S.data.toList (X.ans S.data.toList).1)) := by
   unfold P.res
   rw [if_neg (by omega), if_neg (by rw [hc]; exact fun h => h rfl)]
  rw [hres]
  clear hres
  obtain ⟨W, hW, p2, p3, hsz, hbW⟩ := enter_p w
  obtain ⟨b2, hb2⟩ : ∃ b, b = w.heap.size := ⟨_, rfl⟩
  obtain ⟨b3, hb3⟩ : ∃ b, b = w.heap.size + 1 := ⟨_, rfl⟩
  rw [← hb2] at p2
  rw [← hb3] at p3
  have hn23 : b2 ≠ b3 := by omega
  have l2 : w.heap.size ≤ b2 := by omega
  have l3 : w.heap.size ≤ b3 := by omega
  have HW := Lib.hid hW
  have HB2 := Lib.hid hb2
  have HB3 := Lib.hid hb3
  clear hW hb2 hb3 hsz
  have d1 : decide ((4096 : Int) < S.size) = false := decide_eq_false (by omega)
  have d2 : decide ((S.size : Int) > 4096) = false := decide_eq_false (by omega)
  obtain ⟨⟨t1, cd, pp⟩, ht⟩ : ∃ t, X.ans S.data.toList = t := ⟨_, rfl⟩
  rw [ht] at hc hpp hln hbk ⊢
  dsimp only at hc hpp hln hbk ⊢
  subst hc
  subst hpp
  have HT := Lib.hid ht
  clear ht
  obtain ⟨ws, hws⟩ : ∃ ws, X.tks S.data.toList t1 = ws := ⟨_, rfl⟩
  rw [hws] at hbk ⊢
  have hwl : ws.length = t1.length := by rw [← hws, X.tks_len]
  have HWS := Lib.hid hws
  have HWL := Lib.hid hwl
  obtain ⟨fu, hfu⟩ : ∃ f, P.fuel ws = f := ⟨_, rfl⟩
  have htot : P.G S.size fu .form ws ≠ .out := by rw [← hfu]; exact P.G_total _ _ _ _ (by simp only [P.fuel, P.NT.rank]; omega)
  have hrd0 : P.read S.size ws = (P.G S.size fu .form ws).bind fun t r => if r.isEmpty then .ok t [] else P.wrong S.size r := by unfold P.read; rw [hfu]
  rw [hfu] at hbk
  obtain ⟨⟨rc, rp, rt⟩, hres⟩ : ∃ x, P.resOf (P.read S.size ws) = x := ⟨_, rfl⟩
  rw [hres]
  dsimp only
  rw [hrd0] at hres
  have HBK := Lib.hid hbk
  have HRES := Lib.hid hres
  have HTOT := Lib.hid htot
  clear hws hbk hwl hfu hrd0 hres htot
  go_enter Tryz.func11, Tryz.ntmps11
  go_upto_region 1 with (fail)
  rw [← HW.out, ← HB3.out, ← HB2.out]
  go_upto_region 4 with (go_at_call 33; refine (rtokens_r _ S).mono ?_; rw [HT.out]; dsimp only; rintro ex w1 ⟨v, rs, rfl, hown, htk, hb1⟩)
  obtain ⟨w2, hw2, pm2, hb2'⟩ := made_blk w1 #[.int .i64 0, .int .i64 0] 31
  obtain ⟨bm, hbm⟩ : ∃ x, x = w1.heap.size := ⟨_, rfl⟩
  rw [← hw2, ← hbm]
  rw [← hbm] at pm2
  clear hw2
  have hb02 := below_on (below_on hbW hb1) hb2'
  have p22 := (p2.below hb1).below hb2'
  have p32 := (p3.below hb1).below hb2'
  obtain ⟨A0, c0, hv⟩ := hown.slice
  have hrl : rs.length = ws.length := by rw [HWL.out]; exact htk.1
  rw [hrl] at hv
  subst hv
  obtain ⟨R0, hRd⟩ : ∃ R0 : Nat → Prop, R0 = fun b => W.heap.size ≤ b ∧ b < w1.heap.size := ⟨_, rfl⟩
  have hRa : ∀ b, R0 b → W.heap.size ≤ b ∧ b < w1.heap.size := fun b h => by rw [hRd] at h; exact h
  have hwd1 := wds_tokR (R0 := R0) (by rw [← HWL.out]; exact hown) htk (fun b h1 h2 => by rw [hRd]; exact ⟨h1, h2⟩)
  clear hRd
  rw [HWS.out] at hwd1
  clear hown htk hrl
  have hdx2 : Dx w2 R0 A0 ws := ⟨hwd1.keep (.of_below hb2'), by rw [HWL.out]; omega, fun b h => by have := (hRa b h).2; have := hb2'.size; omega⟩
  obtain ⟨m0, m1⟩ := pm2.duo
  clear hbm
  go_upto_region 7 with (fail)
  obtain ⟨w3, hw3, ps3, hb3'⟩ := made_blk w2 #[.slice A0 ws.length c0, .int .i64 (S.size : Nat)] 54
  obtain ⟨g4, hg4⟩ : ∃ x, x = w2.heap.size := ⟨_, rfl⟩
  rw [← hw3, ← hg4]
  rw [← hg4] at ps3
  clear hw3 hg4 m0 m1 pm2
  have hb03 := below_on hb02 hb3'
  have p23 := p22.below hb3'
  have p33 := p32.below hb3'
  have h3 := hdx2.below hb3'
  obtain ⟨y0, y1⟩ := ps3.duo
  have hb2W := p2.lt
  have hb3W := p3.lt
  have hs1 := hb1.size
  have hs2 := hb2'.size
  have hs3 := hb3'.size
  clear hb02 p22 p32 hdx2 hwd1
  have HRU := Lib.hid (formula_d (R0 := R0) (A := A0) (c := c0) (ws := ws) (e := S.size) fu)
  have hres := HRES.out
  have hbk0 := HBK.out
  clear HRES HBK
  cases hG : P.G S.size fu .form ws with
  | out => exact absurd hG HTOT.out
  | bad cd p =>
   have hG0 : P.G S.size fu .form (ws.drop 0) = .bad cd p := hG
   have HG := Lib.hid hG0
   rw [hG] at hres
   have hres : (cd, p, t0) = (rc, rp, rt) := hres
   injection hres with e1 e2
   injection e2 with e2 e3
   subst e1 e2 e3
   clear hG hG0 hbk0
   go_upto_region 8 with (go_at_call 34; refine (HRU.out.bad h3 (Nat.zero_le _) rfl HG.out).mono ?_; rintro ex w4 ⟨hcd, ⟨z3, rfl⟩, hb4⟩)
   have cd0 : ((cd : Int) == 0) = false := by simp; omega
   have cd1 : ((cd : Int) != 0) = true := by simp; omega
   obtain ⟨w5, hw5, pr5, hb5⟩ := made_blk w4 #[.int .i64 0, .string ⟨#[]⟩, .slice none 0 0, .bool false, .slice none 0 0, .slice none 0 0, .int .i64 z3, .int .i64 (cd : Nat), .int .i64 (p : Nat)] 56
   obtain ⟨g5, hg5⟩ : ∃ x, x = w4.heap.size := ⟨_, rfl⟩
   rw [← hw5, ← hg5]
   rw [← hg5] at pr5
   have hb05 := below_on (below_on hb03 hb4) hb5
   have p25 := (p23.below hb4).below hb5
   have p35 := (p33.below hb4).below hb5
   have ps5 := (ps3.below hb4).below hb5
   have h5 := (h3.below hb4).below hb5
   have hs4 := hb4.size
   have hs5 := hb5.size
   have nm2 : ¬ (b2 = g5) := by omega
   have nm3 : ¬ (b3 = g5) := by omega
   have lg5 : w.heap.size ≤ g5 := by have := hb03.size; omega
   clear hw5 y0 y1
   obtain ⟨y0, y1⟩ := ps5.duo
   clear hg5
   have kv := pr5.open9
   go_upto_region 11 with (fail)
   clear y0 y1
   have qx := p25.open6
   obtain ⟨⟨r0, r1⟩, y0, y1⟩ := p35.facts2
   go_region
   all_goals
    go_wp2_with fail
    refine bodyPost_ret (results_p rfl _ _ _ _ _ _ _ _ _ _ _ _ rfl rfl ((((p25.set6 _ _ _ _ _ _).far hn23 _ _).far hn23 _ _).drew) ((((((((p35.far hn23.symm _ _).far hn23.symm _ _).far hn23.symm _ _).far hn23.symm _ _).far hn23.symm _ _).far hn23.symm _ _).set2 _ _).drew)) rfl ?_
    exact ⟨none, 0, none, 0, none, 0, rfl, results_zero _ _, ((((((((hb05.setCell l2 _).setCell l2 _).setCell l2 _).setCell l2 _).setCell l2 _).setCell l2 _).setCell l3 _).setCell l3 _).drew⟩
  | ok t r =>
   have hbt := hbk0 t r hG
   have hG0 : P.G S.size fu .form (ws.drop 0) = .ok t r := hG
   have HG := Lib.hid hG0
   rw [hG] at hres
   clear hG hG0 hbk0
   go_upto_region 8 with (go_at_call 34; refine (HRU.out.ok h3 (Nat.zero_le _) rfl HG.out).mono ?_; rintro ex w4 ⟨⟨A1, c1, A2, c2, A3, c3, a', rfl, rfl, ha', hin⟩, hb4⟩)
   obtain ⟨Rt, hRt⟩ : ∃ R : Nat → Prop, DR R0 w3.heap.size w4.heap.size = R := ⟨_, rfl⟩
   rw [hRt] at hin
   obtain ⟨w5, hw5, pr5, hb5⟩ := made_blk w4 #[.int .i64 t.k, .string t.nm, .slice A1 t.ns.length c1, .bool t.ng, .slice A2 t.mg.length c2, .slice A3 t.ks.length c3, .int .i64 (a' : Nat), .int .i64 0, .int .i64 0] 56
   obtain ⟨g5, hg5⟩ : ∃ x, x = w4.heap.size := ⟨_, rfl⟩
   rw [← hw5, ← hg5]
   rw [← hg5] at pr5
   have hb05 := below_on (below_on hb03 hb4) hb5
   have p25 := (p23.below hb4).below hb5
   have p35 := (p33.below hb4).below hb5
   have ps5 := (ps3.below hb4).below hb5
   have h5 := (h3.below hb4).below hb5
   have hs4 := hb4.size
   have hs5 := hb5.size
   have nm2 : ¬ (b2 = g5) := by omega
   have nm3 : ¬ (b3 = g5) := by omega
   have lg5 : w.heap.size ≤ g5 := by have := hb03.size; omega
   clear hw5 y0 y1
   obtain ⟨y0, y1⟩ := ps5.duo
   have hin5 := hin.below hb5
   have nt2 : ¬ Rt b2 := by
    rw [← hRt]
    rintro (h | ⟨h, _⟩)
    · have := (hRa _ h).1; omega
    · omega
   have nt3 : ¬ Rt b3 := by
    rw [← hRt]
    rintro (h | ⟨h, _⟩)
    · have := (hRa _ h).1; omega
    · omega
   have hqt : ∀ b, Rt b → b < w5.heap.size := by
    rw [← hRt]
    rintro b (h | ⟨_, h⟩)
    · have := (hRa _ h).2; omega
    · omega
   clear hg5 hRt hin
   have kv := pr5.open9
   by_cases hlt : a' < ws.length
   ·
    have e1 : decide ((a' : Int) < (ws.length : Int)) = true := decide_eq_true (by omega)
    have e2 : decide (a' < ws.length) = true := decide_eq_true hlt
    have hne : (ws.drop a').isEmpty = false := by
     rw [List.isEmpty_eq_false_iff]
     intro h
     have := congrArg List.length h
     simp at this
     omega
    have hgo : P.resOf ((P.Rd.ok t (ws.drop a')).bind fun t r => if r.isEmpty then .ok t [] else P.wrong S.size r) = P.resOf (P.wrong S.size (ws.drop a')) := by
     show P.resOf (if (ws.drop a').isEmpty then .ok t [] else P.wrong S.size (ws.drop a')) = _
     rw [hne]
     rfl
    have hres := hgo.symm.trans hres
    clear hgo hne
    have hwn := h5.2.1
    go_upto_region 10 with (go_at_call 35; refine (wrong_d h5 a' (by omega) _ rfl).mono ?_; rintro ex w6 ⟨⟨cd, p, hwr, hcd, rfl⟩, hb6⟩; have pr6 := pr5.below hb6; obtain ⟨⟨s0, s1, s2, s3, s4, s5, s6, s7, s8⟩, j0, j1, j2, j3, j4, j5, j6, j7, j8⟩ := pr6.open9)
    clear s0 s1 s2 s3 s4 s5 s6 s7 s8 j0 j1 j2 j3 j4 j5 j6 j7 j8 kv
    obtain ⟨w7, hw7, pr7, hf7, hB7⟩ := nine_set pr6 (.int .i64 0) (.string ⟨#[]⟩) (.slice none 0 0) (.bool false) (.slice none 0 0) (.slice none 0 0) (.int .i64 0) (.int .i64 (cd : Nat)) (.int .i64 (p : Nat))
    rw [← hw7]
    have hb07 := hB7 _ _ (below_on hb05 hb6) lg5
    have p27 := hf7.blk (p25.below hb6) nm2
    have p37 := hf7.blk (p35.below hb6) nm3
    have cd0 : ((cd : Int) == 0) = false := by simp; omega
    have cd1 : ((cd : Int) != 0) = true := by simp; omega
    rw [hwr] at hres
    have hres : (cd, p, t0) = (rc, rp, rt) := hres
    injection hres with e1 e2
    injection e2 with e2 e3
    subst e1 e2 e3
    clear hw7 hB7 hwr
    have kv := pr7.open9
    go_upto_region 11 with (fail)
    clear y0 y1
    have qx := p27.open6
    obtain ⟨⟨r0, r1⟩, y0, y1⟩ := p37.facts2
    go_region
    all_goals
     go_wp2_with fail
     refine bodyPost_ret (results_p rfl _ _ _ _ _ _ _ _ _ _ _ _ rfl rfl ((((p27.set6 _ _ _ _ _ _).far hn23 _ _).far hn23 _ _).drew) ((((((((p37.far hn23.symm _ _).far hn23.symm _ _).far hn23.symm _ _).far hn23.symm _ _).far hn23.symm _ _).far hn23.symm _ _).set2 _ _).drew)) rfl ?_
     exact ⟨none, 0, none, 0, none, 0, rfl, results_zero _ _, ((((((((hb07.setCell l2 _).setCell l2 _).setCell l2 _).setCell l2 _).setCell l2 _).setCell l2 _).setCell l3 _).setCell l3 _).drew⟩
   ·
    obtain rfl : a' = ws.length := by omega
    have e1 : decide ((ws.length : Int) < (ws.length : Int)) = false := decide_eq_false (by omega)
    have hgo : P.resOf ((P.Rd.ok t (ws.drop ws.length)).bind fun t r => if r.isEmpty then .ok t [] else P.wrong S.size r) = if 60 < t.depth then (43, 0, t0) else (0, 0, t) := by
     show P.resOf (if (ws.drop ws.length).isEmpty then .ok t [] else P.wrong S.size (ws.drop ws.length)) = _
     rw [List.drop_length]
     rfl
    have hres := hgo.symm.trans hres
    clear hgo
    go_upto_region 13 with (go_at_call 32; refine (rdepth_t 1048576 t _ Rt _ hbt (Nat.le_refl _) hin5).mono ?_; rintro ex w6 ⟨rfl, hb6⟩)
    have pr6 := pr5.below hb6
    have p26 := p25.below hb6
    have p36 := p35.below hb6
    have hb06 := below_on hb05 hb6
    have hin6 := hin5.below hb6
    have hs6 := hb6.size
    clear y0 y1 kv
    have kv := pr6.open9
    have qx := p26.open6
    obtain ⟨⟨r0, r1⟩, y0, y1⟩ := p36.facts2
    by_cases hd : 60 < t.depth
    ·
     rw [if_pos hd] at hres
     injection hres with e1 e2
     injection e2 with e2 e3
     subst e1 e2 e3
     have d3 : decide ((60 : Int) < (t.depth : Int)) = true := decide_eq_true (by omega)
     have d4 : decide (60 < t.depth) = true := decide_eq_true hd
     clear hd
     go_wp2_with fail
     refine bodyPost_ret (results_p rfl _ _ _ _ _ _ _ _ _ _ _ _ rfl rfl (((p26.set6 _ _ _ _ _ _).far hn23 _ _).far hn23 _ _) (((((((p36.far hn23.symm _ _).far hn23.symm _ _).far hn23.symm _ _).far hn23.symm _ _).far hn23.symm _ _).far hn23.symm _ _).set2 _ _)) rfl ?_
     exact ⟨none, 0, none, 0, none, 0, rfl, results_zero _ _, ((((((((hb06.setCell l2 _).setCell l2 _).setCell l2 _).setCell l2 _).setCell l2 _).setCell l2 _).setCell l3 _).setCell l3 _)⟩
    ·
     rw [if_neg hd] at hres
     injection hres with e1 e2
     injection e2 with e2 e3
     subst e1 e2 e3
     have d3 : decide ((60 : Int) < (t.depth : Int)) = false := decide_eq_false (by omega)
     have d4 : decide (60 < t.depth) = false := decide_eq_false hd
     clear hd
     go_wp2_with fail
     refine bodyPost_ret (results_p rfl _ _ _ _ _ _ _ _ _ _ _ _ rfl rfl (((p26.set6 _ _ _ _ _ _).far hn23 _ _).far hn23 _ _) (((((((p36.far hn23.symm _ _).far hn23.symm _ _).far hn23.symm _ _).far hn23.symm _ _).far hn23.symm _ _).far hn23.symm _ _).set2 _ _)) rfl ?_
     exact ⟨A1, c1, A2, c2, A3, c3, rfl, (((hin6.far (fr6 _ b2 _ _ _ _ _ _) nt2).far (fr1 _ b3 0 _) nt3).far (fr1 _ b3 1 _) nt3).mono (fun b h => by simp only [World.size_setCell]; have := hqt b h; omega), ((((((((hb06.setCell l2 _).setCell l2 _).setCell l2 _).setCell l2 _).setCell l2 _).setCell l2 _).setCell l3 _).setCell l3 _)⟩
theorem rparse_x (w : World) (S : ByteArray) :
    Calls Tryz.prog 11 #[.string S] w fun ex w' => ∃ A1 c1 A2 c2 A3 c3, ex = .returned (.tuple #[.agg #[.int .i64 (P.res S).2.2.k, .string (P.res S).2.2.nm, .slice A1 (P.res S).2.2.ns.length c1, .bool (P.res S).2.2.ng, .slice A2 (P.res S).2.2.mg.length c2, .slice A3 (P.res S).2.2.ks.length c3], .agg #[.int .i64 ((P.res S).1 : Nat), .int .i64 ((P.res S).2.1 : Nat)]]) ∧ T.In w' (fun b => b < w'.heap.size) (P.res S).2.2 (.agg #[.int .i64 (P.res S).2.2.k, .string (P.res S).2.2.nm, .slice A1 (P.res S).2.2.ns.length c1, .bool (P.res S).2.2.ng, .slice A2 (P.res S).2.2.mg.length c2, .slice A3 (P.res S).2.2.ks.length c3]) ∧ Below w.heap.size w w' := by
  by_cases h1 : 4096 < S.size
  · have hr : P.res S = (40, 0, t0) := by unfold P.res; rw [if_pos h1]
    rw [hr]
    exact rparse_long w S h1
  ·
   by_cases h2 : (X.ans S.data.toList).2.1 ≠ 0
   · have hr : P.res S = ((X.ans S.data.toList).2.1, (X.ans S.data.toList).2.2, t0) := by unfold P.res; rw [if_neg h1, if_pos h2]
     rw [hr]
     exact rparse_err w S (by omega) h2
   · have h2 : (X.ans S.data.toList).2.1 = 0 := Decidable.not_not.1 h2
     have hl : S.data.toList.length ≤ 4096 := by
      have : S.data.toList.length = S.size := by rw [Array.length_toList]; rfl
      omega
     obtain ⟨_, a2, a3, a4⟩ := X.ans_facts S.data.toList hl
     exact rparse_main w S (by omega) h2 (a4 h2) (by omega) (fun t r h => by have := tks_bulk S (by omega) _ _ _ rfl t r h; omega)
end
end Go.Proofs.YthiadenmljbdaaaGreatDoor

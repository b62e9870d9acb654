/-
  p: the parts DNot.
-/
import Derived.Test.YthiadenmljbdaaaGreatDoorB30p
import Derived.Test.YthiadenmljbdaaaGreatDoorB15p
import Derived.Deep.Cut
import Derived.Deep.AppendLies
namespace Go.Proofs.YthiadenmljbdaaaGreatDoor
section
open Go.RowKit
theorem StrL.far {w w' : World} {R : Nat → Prop} {b : Nat} {A : Option Addr} {c : Nat} {ns : List ByteArray} (h : StrL w R A c ns) (hf : Fr w w' (fun k => k = b)) (hb : ¬ R b) : StrL w' R A c ns :=
 h.keep (fun p _ hp hc => hf.cell hc (fun e => hb ((show p.block = b from e) ▸ hp))) (fun _ h => h)
attribute [local go_sem] Oper.semAt_some
section
variable {R0 : Nat → Prop} {A : Option Addr} {c e : Nat} {ws : List Wd}
set_option maxRecDepth 100000 in
set_option maxHeartbeats 12000000 in
theorem notted_d (f : Nat) (hno : DRule R0 A c ws e f .notted 157) (hpr : DRule R0 A c ws e f .prim 169) (hfo : DRule R0 A c ws e f .form 34) : DRule R0 A c ws e (f + 1) .notted 157 := by
 intro w a z hz h ha hX
 subst hz
 rw [P.G_succ] at hX ⊢
 obtain ⟨X, hXe⟩ : ∃ X, P.step e (P.G e f) .notted (ws.drop a) = X := ⟨_, rfl⟩
 rw [hXe] at hX ⊢
 unfold xv
 obtain ⟨w0, g0, g1, hW, hg0, hg1, ps0, pr0, hV0⟩ := enter_d w A ws.length c e
 have h0 := h.below hV0
 have hn := h.2.1
 have hz0 := h.2.2
 have ha1 : a ≤ 1048577 := by omega
 have hl1 : w.heap.size ≤ g1 := by omega
 have hl0 : w.heap.size ≤ g0 := by omega
 have wa1 : IntKind.i64.wrap ((a : Int) + 1) = (a : Int) + 1 := wrap_nat (by omega) (by omega)
 have HW := Lib.hid hW
 have HG0 := Lib.hid hg0
 have HG1 := Lib.hid hg1
 clear h hW hg0 hg1
 have HNO := Lib.hid hno
 have HPR := Lib.hid hpr
 have HFO := Lib.hid hfo
 clear hno hpr hfo
 obtain ⟨X1, hX1⟩ : ∃ x, P.tx (ws.drop a) = x := ⟨_, rfl⟩
 have m1 : (X1.toList == [110, 111, 116]) = P.isW ⟨#[110, 111, 116]⟩ (ws.drop a) := by rw [← hX1]; exact tx_beq ⟨#[110, 111, 116]⟩ (by decide) _
 have m2 : (X1.toList == [115, 111, 109, 101]) = P.isW ⟨#[115, 111, 109, 101]⟩ (ws.drop a) := by rw [← hX1]; exact tx_beq ⟨#[115, 111, 109, 101]⟩ (by decide) _
 have m3 : (X1.toList == [97, 108, 108]) = P.isW ⟨#[97, 108, 108]⟩ (ws.drop a) := by rw [← hX1]; exact tx_beq ⟨#[97, 108, 108]⟩ (by decide) _
 have HX1 := Lib.hid hX1
 clear hX1
 by_cases c1 : P.isW ⟨#[110, 111, 116]⟩ (ws.drop a) = true
 ·
  have hal : a + 1 ≤ ws.length := isW_lt c1
  rw [c1] at m1
  simp only [P.step, c1, if_true, tail_drop] at hXe
  clear c1 m2 m3
  cases hY : P.G e f .notted (ws.drop (a + 1)) with
  | out => rw [hY] at hXe; exact absurd hXe.symm hX
  | bad cd p =>
   rw [hY] at hXe
   have hXe : P.Rd.bad cd p = X := hXe
   subst hXe
   have HY := Lib.hid hY
   clear hX hY
   go_enter Tryz.func157, Tryz.ntmps157
   go_upto_region 1 with (fail)
   rw [← HW.out, ← HG1.out, ← HG0.out]
   obtain ⟨y0, y1⟩ := ps0.duo
   go_upto_region 2 with (go_at_call 64; refine (word_d h0 a ha1 _ rfl).mono ?_; rw [HX1.out]; rintro ex w1 ⟨rfl, hb1⟩)
   have h1 := h0.below hb1
   have hV1 := below_on hV0 hb1
   have ps1 := ps0.below hb1
   have pr1 := pr0.below hb1
   clear h0 hV0 ps0 pr0 y0 y1
   obtain ⟨y0, y1⟩ := ps1.duo
   go_upto_region 4 with (go_at_call 157; refine (HNO.out.bad h1 hal (by omega) HY.out).mono ?_; rintro ex w2 ⟨hcd, ⟨z3, rfl⟩, hb2⟩)
   have cd0 : ((cd : Int) == 0) = false := by simp; omega
   have cd1 : ((cd : Int) != 0) = true := by simp; omega
   have h2 := h1.below hb2
   have hV2 := below_on hV1 hb2
   have ps2 := ps1.below hb2
   have pr2 := pr1.below hb2
   clear h1 hV1 ps1 pr1 y0 y1
   obtain ⟨y0, y1⟩ := ps2.duo
   obtain ⟨w3, hw3, pg23, hb3⟩ := made_blk w2 #[.int .i64 0, .string ⟨#[]⟩, .slice none 0 0, .bool false, .slice none 0 0, .slice none 0 0, .int .i64 z3, .int .i64 (cd : Nat), .int .i64 (p : Nat)] 56
   obtain ⟨g2, hg2⟩ : ∃ x, x = w2.heap.size := ⟨_, rfl⟩
   rw [← hw3, ← hg2]
   rw [← hg2] at pg23
   have lg2 : w.heap.size ≤ g2 := by have := hV2.size; omega
   have neg2 : g1 ≠ g2 := by have := pr2.lt; omega
   have nzg2 : g0 ≠ g2 := by have := ps2.lt; omega
   clear hw3 hg2
   have h3 := h2.below hb3
   have hV3 := below_on hV2 hb3
   have ps3 := ps2.below hb3
   have pr3 := pr2.below hb3
   clear h2 hV2 ps2 pr2 y0 y1
   obtain ⟨y0, y1⟩ := ps3.duo
   obtain ⟨⟨q0, q1, q2, q3, q4, q5, q6, q7, q8⟩, x0, x1, x2, x3, x4, x5, x6, x7, x8⟩ := pg23.open9
   obtain ⟨⟨p0, p1, p2, p3, p4, p5, p6, p7, p8⟩, z0, z1, z2, z3, z4, z5, z6, z7, z8⟩ := pr3.open9
   go_wp2_with fail
   refine bodyPost_ret (results_rl rfl _ _ _ _ _ _ _ _ _ _ _ _ rfl (pr3.set9 _ _ _ _ _ _ _ _ _)) rfl ?_
   exact dans_bad (below_set9 hV3 hl1 _ _ _ _ _ _ _ _ _) hcd
  | ok u r =>
   rw [hY] at hXe
   have hXe : P.Rd.ok (P.nd 16 [u]) r = X := hXe
   subst hXe
   have HY := Lib.hid hY
   clear hX hY
   go_enter Tryz.func157, Tryz.ntmps157
   go_upto_region 1 with (fail)
   rw [← HW.out, ← HG1.out, ← HG0.out]
   obtain ⟨y0, y1⟩ := ps0.duo
   go_upto_region 2 with (go_at_call 64; refine (word_d h0 a ha1 _ rfl).mono ?_; rw [HX1.out]; rintro ex w1 ⟨rfl, hb1⟩)
   have h1 := h0.below hb1
   have hV1 := below_on hV0 hb1
   have ps1 := ps0.below hb1
   have pr1 := pr0.below hb1
   clear h0 hV0 ps0 pr0 y0 y1
   obtain ⟨y0, y1⟩ := ps1.duo
   go_upto_region 4 with (go_at_call 157; refine (HNO.out.ok h1 hal (by omega) HY.out).mono ?_; rintro ex w2 ⟨⟨A1, c1, A2, c2, A3, c3, a', rfl, rfl, ha', hin⟩, hb2⟩)
   obtain ⟨Ru, hRu⟩ : ∃ R : Nat → Prop, DR R0 w1.heap.size w2.heap.size = R := ⟨_, rfl⟩
   rw [hRu] at hin
   have hinu2 := hin
   clear hin
   have nug1 : ¬ Ru g1 := by
    rw [← hRu]
    rintro (h | ⟨h, _⟩)
    · have := hz0 _ h; omega
    · have := pr1.lt; omega
   have hqu : ∀ b, Ru b → b < w2.heap.size := by
    rw [← hRu]
    rintro b (h | ⟨_, h⟩)
    · have := hz0 _ h; have := hV1.size; have := hb2.size; omega
    · exact h
   have hwu : ∀ b, Ru b → R0 b ∨ w.heap.size ≤ b := by
    rw [← hRu]
    rintro b (h | ⟨h, _⟩)
    · exact .inl h
    · exact .inr (Nat.le_trans hV1.size h)
   clear hRu
   have h2 := h1.below hb2
   have hV2 := below_on hV1 hb2
   have ps2 := ps1.below hb2
   have pr2 := pr1.below hb2
   clear h1 hV1 ps1 pr1 y0 y1
   obtain ⟨y0, y1⟩ := ps2.duo
   obtain ⟨w3, hw3, pg23, hb3⟩ := made_blk w2 #[.int .i64 u.k, .string u.nm, .slice A1 u.ns.length c1, .bool u.ng, .slice A2 u.mg.length c2, .slice A3 u.ks.length c3, .int .i64 (a' : Nat), .int .i64 0, .int .i64 0] 56
   obtain ⟨g2, hg2⟩ : ∃ x, x = w2.heap.size := ⟨_, rfl⟩
   rw [← hw3, ← hg2]
   rw [← hg2] at pg23
   have lg2 : w.heap.size ≤ g2 := by have := hV2.size; omega
   have neg2 : g1 ≠ g2 := by have := pr2.lt; omega
   have nzg2 : g0 ≠ g2 := by have := ps2.lt; omega
   have nug2 : ¬ Ru g2 := fun h => by have := hqu _ h; omega
   have hinu3 := hinu2.below hb3
   replace hqu : ∀ b, Ru b → b < w3.heap.size := fun b h => Nat.lt_of_lt_of_le (hqu b h) hb3.size
   clear hw3 hg2
   have h3 := h2.below hb3
   have hV3 := below_on hV2 hb3
   have ps3 := ps2.below hb3
   have pr3 := pr2.below hb3
   clear h2 hV2 ps2 pr2 y0 y1
   obtain ⟨y0, y1⟩ := ps3.duo
   have HA := below_alloc1 w3 (.cells #[.int .i64 u.k, .string u.nm, .slice A1 u.ns.length c1, .bool u.ng, .slice A2 u.mg.length c2, .slice A3 u.ks.length c3] 28)
   obtain ⟨⟨r0, r1, r2, r3, r4, r5, r6, r7, r8⟩, v0, v1, v2, v3, v4, v5, v6, v7, v8⟩ := pg23.open9
   obtain ⟨⟨q0, q1, q2, q3, q4, q5, q6, q7, q8⟩, x0, x1, x2, x3, x4, x5, x6, x7, x8⟩ := (pg23.below HA).open9
   obtain ⟨⟨p0, p1, p2, p3, p4, p5, p6, p7, p8⟩, z0, z1, z2, z3, z4, z5, z6, z7, z8⟩ := (pr3.below HA).open9
   have ne' : ¬ (g2 = g1) := fun e => neg2 e.symm
   go_wp2_with fail
   refine bodyPost_ret (results_rl rfl _ _ _ _ _ _ _ _ _ _ _ _ rfl (((pr3.below HA).far6 neg2 _ _ _ _ _ _).set9 _ _ _ _ _ _ _ _ _)) rfl ?_
   exact dans_one hV3 hl1 lg2 pr3.lt pg23.lt hz0 hinu3 (fun b h => (hwu b h).imp id (fun h' => ⟨h', hqu b h⟩)) nug1 nug2 (Lm.nil _ _) ha' rfl
 rw [Bool.not_eq_true] at c1
 rw [c1] at m1
 by_cases c2 : P.isW ⟨#[115, 111, 109, 101]⟩ (ws.drop a) = false ∧ P.isW ⟨#[97, 108, 108]⟩ (ws.drop a) = false
 ·
  obtain ⟨c2, c3⟩ := c2
  rw [c2] at m2
  rw [c3] at m3
  have n2 : (X1.toList != [115, 111, 109, 101]) = true := by rw [bne, m2]; rfl
  have n3 : (X1.toList != [97, 108, 108]) = true := by rw [bne, m3]; rfl
  simp only [P.step, c1, c2, c3, Bool.false_eq_true, if_false] at hXe
  clear c1 c2 c3
  cases hY : P.G e f .prim (ws.drop a) with
  | out => rw [hY] at hXe; exact absurd hXe.symm hX
  | bad cd p =>
   rw [hY] at hXe
   have hXe : P.Rd.bad cd p = X := hXe
   subst hXe
   have HY := Lib.hid hY
   clear hX hY
   go_enter Tryz.func157, Tryz.ntmps157
   go_upto_region 1 with (fail)
   rw [← HW.out, ← HG1.out, ← HG0.out]
   obtain ⟨y0, y1⟩ := ps0.duo
   go_upto_region 2 with (go_at_call 64; refine (word_d h0 a ha1 _ rfl).mono ?_; rw [HX1.out]; rintro ex w1 ⟨rfl, hb1⟩)
   have h1 := h0.below hb1
   have hV1 := below_on hV0 hb1
   have ps1 := ps0.below hb1
   have pr1 := pr0.below hb1
   clear h0 hV0 ps0 pr0 y0 y1
   obtain ⟨y0, y1⟩ := ps1.duo
   go_wp2_with (go_at_call 169; refine (HPR.out.bad h1 ha (by omega) HY.out).mono ?_; rintro ex w2 ⟨hcd, ⟨z3, rfl⟩, hb2⟩; have hV2 := below_on hV1 hb2; have pr2 := pr1.below hb2; obtain ⟨⟨p0, p1, p2, p3, p4, p5, p6, p7, p8⟩, z0, z1, z2, z3, z4, z5, z6, z7, z8⟩ := pr2.open9)
   refine bodyPost_ret (results_rl rfl _ _ _ _ _ _ _ _ _ _ _ _ rfl (pr2.set9 _ _ _ _ _ _ _ _ _)) rfl ?_
   exact dans_bad (below_set9 hV2 hl1 _ _ _ _ _ _ _ _ _) hcd
  | ok u r =>
   rw [hY] at hXe
   have hXe : P.Rd.ok u r = X := hXe
   subst hXe
   have HY := Lib.hid hY
   clear hX hY
   go_enter Tryz.func157, Tryz.ntmps157
   go_upto_region 1 with (fail)
   rw [← HW.out, ← HG1.out, ← HG0.out]
   obtain ⟨y0, y1⟩ := ps0.duo
   go_upto_region 2 with (go_at_call 64; refine (word_d h0 a ha1 _ rfl).mono ?_; rw [HX1.out]; rintro ex w1 ⟨rfl, hb1⟩)
   have h1 := h0.below hb1
   have hV1 := below_on hV0 hb1
   have ps1 := ps0.below hb1
   have pr1 := pr0.below hb1
   clear h0 hV0 ps0 pr0 y0 y1
   obtain ⟨y0, y1⟩ := ps1.duo
   go_wp2_with (go_at_call 169; refine (HPR.out.ok h1 ha (by omega) HY.out).mono ?_; rintro ex w2 ⟨⟨A1, c1, A2, c2, A3, c3, a', rfl, rfl, ha', hin⟩, hb2⟩; have hV2 := below_on hV1 hb2; have pr2 := pr1.below hb2; obtain ⟨⟨p0, p1, p2, p3, p4, p5, p6, p7, p8⟩, z0, z1, z2, z3, z4, z5, z6, z7, z8⟩ := pr2.open9)
   obtain ⟨Ru, hRu⟩ : ∃ R : Nat → Prop, DR R0 w1.heap.size w2.heap.size = R := ⟨_, rfl⟩
   rw [hRu] at hin
   have hinu2 := hin
   clear hin
   have nug1 : ¬ Ru g1 := by
    rw [← hRu]
    rintro (h | ⟨h, _⟩)
    · have := hz0 _ h; omega
    · have := pr1.lt; omega
   have hqu : ∀ b, Ru b → b < w2.heap.size := by
    rw [← hRu]
    rintro b (h | ⟨_, h⟩)
    · have := hz0 _ h; have := hV1.size; have := hb2.size; omega
    · exact h
   have hwu : ∀ b, Ru b → R0 b ∨ w.heap.size ≤ b := by
    rw [← hRu]
    rintro b (h | ⟨h, _⟩)
    · exact .inl h
    · exact .inr (Nat.le_trans hV1.size h)
   clear hRu
   refine bodyPost_ret (results_rl rfl _ _ _ _ _ _ _ _ _ _ _ _ rfl (pr2.set9 _ _ _ _ _ _ _ _ _)) rfl ?_
   exact dans_ok (below_set9 hV2 hl1 _ _ _ _ _ _ _ _ _) (hinu2.far (fr9 _ _ _ _ _ _ _ _ _ _ _) nug1) hwu (fun b h => Nat.lt_of_lt_of_le (hqu b h) (fr9 _ _ _ _ _ _ _ _ _ _ _).size) ha'
 have hal : a + 1 ≤ ws.length := by
  rcases Nat.lt_or_ge a ws.length with h | h
  · exact h
  · exact absurd ⟨by rw [List.drop_eq_nil_of_le h]; rfl, by rw [List.drop_eq_nil_of_le h]; rfl⟩ c2
 obtain ⟨i0, hi, iz0, iz1, iz2⟩ := info_parts info_st
 obtain ⟨q, hq⟩ : ∃ q, a + 1 = q := ⟨_, rfl⟩
 have wq : IntKind.i64.wrap ((a : Int) + 1) = (q : Int) := by rw [wa1]; omega
 obtain ⟨n, hn'⟩ : ∃ n, ws.length = n + q := ⟨ws.length - q, by omega⟩
 have hnb : n + q ≤ 1048576 := by omega
 have HN := Lib.hid hn'
 have hcs : (P.isW ⟨#[115, 111, 109, 101]⟩ (ws.drop a) = true ∧ P.isW ⟨#[97, 108, 108]⟩ (ws.drop a) = false) ∨ (P.isW ⟨#[115, 111, 109, 101]⟩ (ws.drop a) = false ∧ P.isW ⟨#[97, 108, 108]⟩ (ws.drop a) = true) := by
  have h2 := tx_beq ⟨#[115, 111, 109, 101]⟩ (by decide) (ws.drop a)
  have h3 := tx_beq ⟨#[97, 108, 108]⟩ (by decide) (ws.drop a)
  cases hx : P.isW ⟨#[115, 111, 109, 101]⟩ (ws.drop a)
  · cases hy : P.isW ⟨#[97, 108, 108]⟩ (ws.drop a)
    · exact absurd ⟨hx, hy⟩ c2
    · exact .inr ⟨rfl, rfl⟩
  · refine .inl ⟨rfl, ?_⟩
    rw [hx] at h2
    rw [← h3, show (P.tx (ws.drop a)).toList = [115, 111, 109, 101] by simpa using h2]
    decide
 have HCS : ∃ kk : Int, P.bound e (P.G e f) kk (ws.drop q) = X ∧ (((X1.toList == [115, 111, 109, 101]) = true ∧ (X1.toList == [97, 108, 108]) = false ∧ kk = 21) ∨ ((X1.toList == [115, 111, 109, 101]) = false ∧ (X1.toList == [97, 108, 108]) = true ∧ kk = 22)) := by
  rcases hcs with ⟨h2, h3⟩ | ⟨h2, h3⟩
  · exact ⟨21, by rw [← hXe, ← hq]; simp only [P.step, c1, h2, if_true, Bool.false_eq_true, if_false, tail_drop], .inl ⟨by rw [m2, h2], by rw [m3, h3], rfl⟩⟩
  · exact ⟨22, by rw [← hXe, ← hq]; simp only [P.step, c1, h2, h3, if_true, Bool.false_eq_true, if_false, tail_drop], .inr ⟨by rw [m2, h2], by rw [m3, h3], rfl⟩⟩
 have HQ := Lib.hid hq
 have hql : q ≤ ws.length := by omega
 clear hcs c1 c2 m2 m3 hXe wa1 hq hn'
 obtain ⟨kk, hXe, hor⟩ := HCS
 have hmk : ∀ (Q : Prop), Q → Q := fun _ h => h
 clear hmk
 rcases hor with ⟨m2, m3, hkk⟩ | ⟨m2, m3, hkk⟩
 all_goals
  first
    | (have n2 : (X1.toList != [115, 111, 109, 101]) = false := by rw [bne, m2]; rfl)
    | (have n2 : (X1.toList != [115, 111, 109, 101]) = true := by rw [bne, m2]; rfl
       have n3 : (X1.toList != [97, 108, 108]) = false := by rw [bne, m3]; rfl)
 all_goals
  go_enter Tryz.func157, Tryz.ntmps157
  go_upto_region 1 with (fail)
  rw [← HW.out, ← HG1.out, ← HG0.out]
  obtain ⟨y0, y1⟩ := ps0.duo
  go_upto_region 2 with (go_at_call 64; refine (word_d h0 a ha1 _ rfl).mono ?_; rw [HX1.out]; rintro ex w1 ⟨rfl, hb1⟩)
  have h1 := h0.below hb1
  have hV1 := below_on hV0 hb1
  have ps1 := ps0.below hb1
  have pr1 := pr0.below hb1
  clear h0 hV0 ps0 pr0 y0 y1
  obtain ⟨y0, y1⟩ := ps1.duo
  go_upto_region 10 with (fail)
  obtain ⟨w2, hw2, pg42, hb2⟩ := made_blk w1 #[.int .i64 21, .string ⟨#[]⟩, .slice none 0 0, .bool false, .slice none 0 0, .slice none 0 0] 28
  obtain ⟨g4, hg4⟩ : ∃ x, x = w1.heap.size := ⟨_, rfl⟩
  rw [← hw2, ← hg4]
  rw [← hg4] at pg42
  have lg4 : w.heap.size ≤ g4 := by have := hV1.size; omega
  have neg4 : g1 ≠ g4 := by have := pr1.lt; omega
  have nzg4 : g0 ≠ g4 := by have := ps1.lt; omega
  clear hw2 hg4
  have h2 := h1.below hb2
  have hV2 := below_on hV1 hb2
  have ps2 := ps1.below hb2
  have pr2 := pr1.below hb2
  clear h1 hV1 ps1 pr1 y0 y1
  obtain ⟨y0, y1⟩ := ps2.duo
  obtain ⟨⟨q0, q1, q2, q3, q4, q5⟩, x0, x1, x2, x3, x4, x5⟩ := pg42.open6
  go_upto_region 12 with (fail)
  clear q0 q1 q2 q3 q4 q5 x0 x1 x2 x3 x4 x5
  first
    | (obtain ⟨w3, hw3⟩ : ∃ x, x = w2.setCell ⟨g4, 0, none⟩ (.int .i64 22) := ⟨_, rfl⟩
       rw [← hw3]
       have pg43 : Blk w3 g4 28 #[.int .i64 kk, .string ⟨#[]⟩, .slice none 0 0, .bool false, .slice none 0 0, .slice none 0 0] := by rw [hw3, hkk]; exact pg42.put 0 (.int .i64 22)
       have hf3 := fr1 w2 g4 0 (.int .i64 22)
       have hV3 : Below w.heap.size w (w2.setCell ⟨g4, 0, none⟩ (.int .i64 22)) := hV2.setCell lg4 _
       rw [← hw3] at hf3 hV3)
    | (obtain ⟨w3, hw3⟩ : ∃ x, x = w2 := ⟨_, rfl⟩
       rw [← hw3]
       have pg43 : Blk w3 g4 28 #[.int .i64 kk, .string ⟨#[]⟩, .slice none 0 0, .bool false, .slice none 0 0, .slice none 0 0] := by rw [hw3, hkk]; exact pg42
       have hf3 : Fr w2 w3 (fun k => k = g4) := hw3 ▸ Fr.refl _ _
       have hV3 : Below w.heap.size w w3 := hw3 ▸ hV2)
  have h3 := h2.far hf3 (fun h => by have := hz0 _ h; omega)
  have ps3 := hf3.blk ps2 (fun e => nzg4 e)
  have pr3 := hf3.blk pr2 (fun e => neg4 e)
  have hg4l := pg43.lt
  have hlw0 : w.heap.size ≤ w3.heap.size := hV3.size
  have hlp0 := ps3.lt
  have hlw1 := pr3.lt
  clear hw3 hf3 h2 hV2 ps2 pr2 pg42 y0 y1 hkk m2 m3
  go_wp2_with fail
  go_loopg [1] (n + 1) (fun gk v1 wr => ∃ (k : Nat) (B5 : Option Addr) (c5 : Nat), gk + k = n + 1 ∧ k ≤ n ∧ v1 = .int .i64 ((q + k : Nat) : Int) ∧ wr.ownsRow w3.heap.size 9 1 (.slice B5 k c5) k ((((ws.drop q).take k).map (fun t : Wd => t.2.1)).map Value.string) ∧ (∀ j, j < k → P.kd (ws.drop (q + j)) = 2) ∧ Dx wr R0 A ws ∧ Below w.heap.size w wr ∧ Blk wr g0 54 #[.slice A ws.length c, .int .i64 (e : Nat)] ∧ Blk wr g1 56 #[.int .i64 0, .string ⟨#[]⟩, .slice none 0 0, .bool false, .slice none 0 0, .slice none 0 0, .int .i64 0, .int .i64 0, .int .i64 0] ∧ Blk wr g4 28 #[.int .i64 kk, .string ⟨#[]⟩, .slice B5 k c5, .bool false, .slice none 0 0, .slice none 0 0] ∧ w3.heap.size ≤ wr.heap.size)
  case atStart => exact ⟨0, none, 0, by omega, Nat.zero_le _, by simp, World.ownsRow_nil _ _ _ _, fun j hj => by omega, h3, hV3, ps3, pr3, pg43, Nat.le_refl _⟩
  case round =>
   clear h3 hV3 ps3 pr3 pg43
   obtain ⟨k, B5, c5, hgk, hkn, rfl, hown, hkd, h10, hV10, ps10, pr10, pg410, hs10⟩ := hrel
   obtain ⟨p, hp⟩ : ∃ p, q + k = p := ⟨_, rfl⟩
   rw [hp]
   have hpl : p ≤ ws.length := by have := HN.out; omega
   have HP := Lib.hid hp
   clear hp
   have wap : IntKind.i64.wrap ((p : Int) + 1) = ((p + 1 : Nat) : Int) := by rw [wrap_nat (by omega) (by omega)]; omega
   obtain ⟨y0, y1⟩ := ps10.duo
   by_cases hk2 : P.kd (ws.drop p) = 2
   ·
    have hlt := kd_lt hk2 (by decide)
    have i0' : (0 : Int) ≤ (p : Int) := by omega
    have i1' : (p : Int) < ws.length := by omega
    obtain ⟨⟨t1, t2, t3, t4⟩, ht⟩ : ∃ t, ws.getD p wd0 = t := ⟨_, rfl⟩
    have hsn := take_next ws q k (by rw [HP.out]; exact hlt)
    rw [HP.out, ht] at hsn
    have HSN := Lib.hid hsn
    have HT := Lib.hid ht
    have hkc := fun (w' : World) (h : Dx w' R0 A ws) => kind_d (c := c) (e := e) h p (by omega) _ rfl
    rw [hk2] at hkc
    have HKC := Lib.hid hkc
    have HK2 := Lib.hid hk2
    clear hsn ht hkc hk2
    go_upto_region 14 with (go_at_call 170; refine (HKC.out _ h10).mono ?_; rintro ex w11 ⟨rfl, hb11⟩)
    have h11 := h10.below hb11
    have hV11 := below_on hV10 hb11
    have ps11 := ps10.below hb11
    have pr11 := pr10.below hb11
    have pg411 := pg410.below hb11
    have HOWN := Lib.hid (own_at hown (fun g h1 h2 => hb11.block g h2))
    have hob := own_b HOWN.out
    have hs11 := Nat.le_trans hs10 hb11.size
    clear h10 hV10 ps10 pr10 pg410 hown y0 y1 hs10 hb11
    have hwd := h11.1
    unfold Wds at hwd
    obtain ⟨g, hA, hg0R, hwc⟩ := hwd (by omega)
    obtain ⟨B, d, _, e1, _⟩ := hwc p hlt
    rw [HT.out] at e1
    have hgw := hz0 _ hg0R
    obtain ⟨y0, y1⟩ := ps11.duo
    rw [hA] at y0
    clear hA
    clear hwd hwc
    have hne04 : ¬ (g0 = g4) := fun e => nzg4 e
    refine wp_region_held_drew (S := fun w' => w'.cell? ⟨g0, 0, none⟩ = some (.slice (some ⟨g, 0, none⟩) ws.length c) ∧ w'.cell? ⟨g, p * 5 + 1, none⟩ = some (.string t2)) (by kernel_rfl) ⟨y0, e1⟩ (fun hHeld => ?_)
    refine take_at 0 (by kernel_rfl) (by kernel_rfl) (by kernel_rfl) (fun _ _ d _ _ h => by cases d <;> exact h) ⟨_, rfl⟩ (by assumption) (fun o ho => ?_)
    simp only [zg1, zg3, zg4] at ho
    subst ho
    refine ⟨?_, ⟨by rfl, ?_⟩, ?_⟩
    rotate_left
    · intro w hSw
      (try dsimp only at hSw)
      (go_simp; try with_reducible rfl)
    (try simp only [Act.put, zs1, zs2, zs3])
    refine take_at 2 (by kernel_rfl) (by kernel_rfl) (by kernel_rfl) (fun _ _ d _ _ h => by cases d <;> exact h) ⟨_, rfl⟩ (by assumption) (fun o ho => ?_)
    simp only [zg1, zg2, zg3, zg4] at ho
    subst ho
    refine ⟨?_, ⟨by rfl, ?_⟩, ?_⟩
    rotate_left
    · intro w hSw
      (try dsimp only at hSw)
      (go_simp; try with_reducible rfl)
    (try simp only [Act.put, zs1, zs2, zs3])
    refine take_at 3 (by kernel_rfl) (by kernel_rfl) (by kernel_rfl) (fun _ _ d _ _ h => by cases d <;> exact h) ⟨_, rfl⟩ (by assumption) (fun o ho => ?_)
    simp only [zg1, zg2, zg3, zg4] at ho
    subst ho
    refine ⟨?_, ⟨by rfl, ?_⟩, ?_⟩
    rotate_left
    · intro w hSw
      (try dsimp only at hSw)
      (go_simp; try with_reducible rfl)
    (try simp only [Act.put, zs1, zs2, zs3])
    refine take_at 4 (by kernel_rfl) (by kernel_rfl) (by kernel_rfl) (fun _ _ d _ _ h => by cases d <;> exact h) ⟨_, rfl⟩ (by assumption) (fun o ho => ?_)
    simp only [zg1, zg2, zg3, zg4] at ho
    subst ho
    refine ⟨?_, ⟨by rfl, ?_⟩, ?_⟩
    rotate_left
    · intro w hSw
      (try dsimp only at hSw)
      (go_simp; try with_reducible rfl)
    (try simp only [Act.put, zs1, zs2, zs3])
    refine take_at 5 (by kernel_rfl) (by kernel_rfl) (by kernel_rfl) (fun _ _ d _ _ h => by cases d <;> exact h) ⟨_, rfl⟩ (by assumption) (fun o ho => ?_)
    simp only [zg1, zg2, zg3, zg4] at ho
    subst ho
    refine ⟨?_, ⟨by rfl, ?_⟩, ?_⟩
    rotate_left
    · intro w hSw
      (try dsimp only at hSw)
      (go_simp; try with_reducible rfl)
    (try simp only [Act.put, zs1, zs2, zs3])
    refine take_at 6 (by kernel_rfl) (by kernel_rfl) (by kernel_rfl) (fun _ _ d _ _ h => by cases d <;> exact h) ⟨_, rfl⟩ (by assumption) (fun o ho => ?_)
    simp only [zg1, zg2, zg3, zg4] at ho
    subst ho
    refine ⟨?_, ⟨by rfl, ?_⟩, ?_⟩
    rotate_left
    · intro w hSw
      (try dsimp only at hSw)
      (go_simp; try with_reducible rfl)
    (try simp only [Act.put, zs1, zs2, zs3])
    refine take_at 7 (by kernel_rfl) (by kernel_rfl) (by kernel_rfl) (fun _ _ d _ _ h => by cases d <;> exact h) ⟨_, rfl⟩ (by assumption) (fun o ho => ?_)
    simp only [zg1, zg2, zg3, zg4] at ho
    subst ho
    refine ⟨?_, ⟨by rfl, ?_⟩, ?_⟩
    rotate_left
    · intro w hSw
      (try dsimp only at hSw)
      (go_simp; try with_reducible rfl)
    (try simp only [Act.put, zs1, zs2, zs3])
    obtain ⟨V0, hV0e⟩ : ∃ x, x = w11.drew := ⟨_, rfl⟩
    have hb0 : Below w11.heap.size w11 V0 := by rw [hV0e]; exact (Below.refl _ _).drew
    rw [← hV0e] at hHeld ⊢
    have pg40 := pg411.below hb0
    have pr0' := pr11.below hb0
    have ps0' := ps11.below hb0
    have h0' := h11.below hb0
    have hV0' := below_on hV11 hb0
    have HO0 := Lib.hid (own_at HOWN.out (fun g h1 h2 => hb0.block g h2))
    have hs0' := Nat.le_trans hs11 hb0.size
    have hob0 := own_b HO0.out
    clear hV0e y0 y1 e1 pg411 pr11 ps11 h11 hV11 HOWN hob hs11 hb0
    have n2 := pg40.cell 2
    refine wpAnyH_ready (rs := [1, 8]) (by kernel_rfl) (by simp) ?_
    refine ready_at 1 ⟨_, rfl⟩ (fun o ho K hK => ?_) ?_
    ·
     simp only [zg1, zg2, zg3, zg4] at ho
     subst ho
     go_simp
     refine hK.out _ _ hHeld (fun _ => ?_)
     clear hK K
     (try simp only [Act.put, zs1, zs2, zs3])
     refine wpAnyH_ready (rs := [8]) (by kernel_rfl) (by simp) ?_
     refine ready_at 8 ⟨_, rfl⟩ (fun o ho K hK => ?_) AllReadyH.nil
     simp only [zg1, zg2, zg3, zg4] at ho
     subst ho
     go_simp
     obtain ⟨V1, hV1e, pn1, hb1⟩ := made_blk V0 #[.string t2] 9
     obtain ⟨gs, hgs⟩ : ∃ x, x = V0.heap.size := ⟨_, rfl⟩
     rw [← hV1e, ← hgs]
     rw [← hgs] at pn1
     have hHeld1 : V1.cell? ⟨g0, 0, none⟩ = some (.slice (some ⟨g, 0, none⟩) ws.length c) ∧ V1.cell? ⟨g, p * 5 + 1, none⟩ = some (.string t2) := ⟨(hb1.cell (World.block_lt_of_cell? _ _ hHeld.1)).trans hHeld.1, (hb1.cell (World.block_lt_of_cell? _ _ hHeld.2)).trans hHeld.2⟩
     refine hK.out _ _ hHeld1 (fun _ => ?_)
     clear hK K n2
     (try simp only [Act.put, zs1, zs2, zs3])
     replace hHeld := hHeld1
     clear hHeld1 hV1e hgs
     have HO1 := Lib.hid (own_at HO0.out (fun g h1 h2 => hb1.block g h2))
     refine wpAnyH_ready (rs := [9]) (by kernel_rfl) (by simp) ?_
     refine ready_at 9 ⟨_, rfl⟩ (fun o ho K hK => ?_) AllReadyH.nil
     simp only [zg1, zg2, zg3, zg4] at ho
     subst ho
     refine step_append_lies V1 rfl (.tmp 48) (.tmp 55) 22 rfl w3.heap.size 9 i0 (.string ⟨#[]⟩) 1 16 Tryz.underlying22 hi iz0 iz1 iz2 rfl (by decide) _ k _ rfl HO1.out ⟨gs, 0, none⟩ 1 1 [.string t2] rfl rfl (World.news_of_block pn1) (fun u hu => by simp only [List.mem_cons, List.not_mem_nil, or_false] at hu; rw [hu]; rfl) (by decide) (Nat.le_trans (show k + 1 ≤ 1048577 by omega) (by decide)) (by omega) (Nat.le_trans hs0' hb1.size) V1.heap.size rfl ?_
     intro g' cap V2 hown2 hgr hat hlt2
     have pg42 := gb_blk (pg40.below hb1) hgr (fun e => by have := (hob0 _ e.symm).1; omega)
     have pr2' := gb_blk (pr0'.below hb1) hgr (fun e => by have := (hob0 _ e.symm).1; omega)
     have ps2' := gb_blk (ps0'.below hb1) hgr (fun e => by have := (hob0 _ e.symm).1; omega)
     have h2' := (h0'.below hb1).grown hgr (fun g h h0 => by have := (hob0 _ h).1; have := hz0 _ h0; omega)
     have hV2' := below_grown (below_on hV0' hb1) hgr (fun g h => by have := (hob0 _ h).1; omega)
     have hHeld2 : V2.cell? ⟨g0, 0, none⟩ = some (.slice (some ⟨g, 0, none⟩) ws.length c) ∧ V2.cell? ⟨g, p * 5 + 1, none⟩ = some (.string t2) := ⟨hgr.cell hHeld.1 (fun e => by have := (hob0 _ e.symm).1; dsimp only at this; omega), hgr.cell hHeld.2 (fun e => by have := (hob0 _ e.symm).1; dsimp only at this; omega)⟩
     refine hK.out _ _ hHeld2 (fun _ => ?_)
     clear hK K
     (try simp only [Act.put, zs1, zs2, zs3])
     refine wpAnyH_ready (rs := [10]) (by kernel_rfl) (by simp) ?_
     refine ready_at 10 ⟨_, rfl⟩ (fun o ho K hK => ?_) AllReadyH.nil
     simp only [zg1, zg2, zg3, zg4] at ho
     subst ho
     go_simp
     refine hK.out _ _ hHeld2 (fun _ => ?_)
     clear hK K
     (try simp only [Act.put, zs1, zs2, zs3])
     refine wpAnyH_ready (rs := [11]) (by kernel_rfl) (by simp) ?_
     refine ready_at 11 ⟨_, rfl⟩ (fun o ho K hK => ?_) AllReadyH.nil
     simp only [zg1, zg2, zg3, zg4] at ho
     subst ho
     have n3' := pg42.cell 2
     have n4' := pg42.free 2
     go_simp
     have hf3' := fr1 V2 g4 2 (.slice (some ⟨g', 0, none⟩) (k + 1) cap)
     refine hK.out _ _ ⟨hf3'.cell hHeld2.1 hne04, hf3'.cell hHeld2.2 (fun e => by have e : g = g4 := e; omega)⟩ (fun _ => ?_)
     clear hK K n3' n4'
     (try simp only [Act.put, zs1, zs2, zs3])
     refine wpAnyH_done (by kernel_rfl) ?_ _
     have pg43 := pg42.put 2 (.slice (some ⟨g', 0, none⟩) (k + 1) cap)
     simp only [zs1, zs2, zs3] at pg43
     go_wp2_with fail
     go_roundg (n - k)
     case measure => omega
     case rel =>
      refine ⟨k + 1, _, _, by omega, by have := HN.out; have := HP.out; omega, by have := HP.out; congr 1; omega, by rw [HSN.out, List.map_append]; exact own_at hown2 (fun g h1 h2 => hf3'.block g h2 (by show ¬ g = g4; omega)), ?_, h2'.far hf3' (fun h => by have := hz0 _ h; omega), hV2'.setCell lg4 _, hf3'.blk ps2' (fun e => nzg4 e), hf3'.blk pr2' (fun e => neg4 e), pg43, ?_⟩
      · intro j hj
        by_cases h : j < k
        · exact hkd j h
        · obtain rfl : j = k := by omega
          rw [HP.out]
          exact HK2.out
      · have := hgr.size
        have := hb1.size
        have := hf3'.size
        omega
    refine ready_at 8 ⟨_, rfl⟩ (fun o ho K hK => ?_) AllReadyH.nil
    ·
     simp only [zg1, zg2, zg3, zg4] at ho
     subst ho
     go_simp
     obtain ⟨V1, hV1e, pn1, hb1⟩ := made_blk V0 #[.string t2] 9
     obtain ⟨gs, hgs⟩ : ∃ x, x = V0.heap.size := ⟨_, rfl⟩
     rw [← hV1e, ← hgs]
     rw [← hgs] at pn1
     have hHeld1 : V1.cell? ⟨g0, 0, none⟩ = some (.slice (some ⟨g, 0, none⟩) ws.length c) ∧ V1.cell? ⟨g, p * 5 + 1, none⟩ = some (.string t2) := ⟨(hb1.cell (World.block_lt_of_cell? _ _ hHeld.1)).trans hHeld.1, (hb1.cell (World.block_lt_of_cell? _ _ hHeld.2)).trans hHeld.2⟩
     refine hK.out _ _ hHeld1 (fun _ => ?_)
     clear hK K n2
     (try simp only [Act.put, zs1, zs2, zs3])
     replace hHeld := hHeld1
     clear hHeld1 hV1e hgs
     have n2' := (pg40.below hb1).cell 2
     refine wpAnyH_ready (rs := [1]) (by kernel_rfl) (by simp) ?_
     refine ready_at 1 ⟨_, rfl⟩ (fun o ho K hK => ?_) AllReadyH.nil
     simp only [zg1, zg2, zg3, zg4] at ho
     subst ho
     go_simp
     refine hK.out _ _ hHeld (fun _ => ?_)
     clear hK K n2'
     (try simp only [Act.put, zs1, zs2, zs3])
     have HO1 := Lib.hid (own_at HO0.out (fun g h1 h2 => hb1.block g h2))
     refine wpAnyH_ready (rs := [9]) (by kernel_rfl) (by simp) ?_
     refine ready_at 9 ⟨_, rfl⟩ (fun o ho K hK => ?_) AllReadyH.nil
     simp only [zg1, zg2, zg3, zg4] at ho
     subst ho
     refine step_append_lies V1 rfl (.tmp 48) (.tmp 55) 22 rfl w3.heap.size 9 i0 (.string ⟨#[]⟩) 1 16 Tryz.underlying22 hi iz0 iz1 iz2 rfl (by decide) _ k _ rfl HO1.out ⟨gs, 0, none⟩ 1 1 [.string t2] rfl rfl (World.news_of_block pn1) (fun u hu => by simp only [List.mem_cons, List.not_mem_nil, or_false] at hu; rw [hu]; rfl) (by decide) (Nat.le_trans (show k + 1 ≤ 1048577 by omega) (by decide)) (by omega) (Nat.le_trans hs0' hb1.size) V1.heap.size rfl ?_
     intro g' cap V2 hown2 hgr hat hlt2
     have pg42 := gb_blk (pg40.below hb1) hgr (fun e => by have := (hob0 _ e.symm).1; omega)
     have pr2' := gb_blk (pr0'.below hb1) hgr (fun e => by have := (hob0 _ e.symm).1; omega)
     have ps2' := gb_blk (ps0'.below hb1) hgr (fun e => by have := (hob0 _ e.symm).1; omega)
     have h2' := (h0'.below hb1).grown hgr (fun g h h0 => by have := (hob0 _ h).1; have := hz0 _ h0; omega)
     have hV2' := below_grown (below_on hV0' hb1) hgr (fun g h => by have := (hob0 _ h).1; omega)
     have hHeld2 : V2.cell? ⟨g0, 0, none⟩ = some (.slice (some ⟨g, 0, none⟩) ws.length c) ∧ V2.cell? ⟨g, p * 5 + 1, none⟩ = some (.string t2) := ⟨hgr.cell hHeld.1 (fun e => by have := (hob0 _ e.symm).1; dsimp only at this; omega), hgr.cell hHeld.2 (fun e => by have := (hob0 _ e.symm).1; dsimp only at this; omega)⟩
     refine hK.out _ _ hHeld2 (fun _ => ?_)
     clear hK K
     (try simp only [Act.put, zs1, zs2, zs3])
     refine wpAnyH_ready (rs := [10]) (by kernel_rfl) (by simp) ?_
     refine ready_at 10 ⟨_, rfl⟩ (fun o ho K hK => ?_) AllReadyH.nil
     simp only [zg1, zg2, zg3, zg4] at ho
     subst ho
     go_simp
     refine hK.out _ _ hHeld2 (fun _ => ?_)
     clear hK K
     (try simp only [Act.put, zs1, zs2, zs3])
     refine wpAnyH_ready (rs := [11]) (by kernel_rfl) (by simp) ?_
     refine ready_at 11 ⟨_, rfl⟩ (fun o ho K hK => ?_) AllReadyH.nil
     simp only [zg1, zg2, zg3, zg4] at ho
     subst ho
     have n3' := pg42.cell 2
     have n4' := pg42.free 2
     go_simp
     have hf3' := fr1 V2 g4 2 (.slice (some ⟨g', 0, none⟩) (k + 1) cap)
     refine hK.out _ _ ⟨hf3'.cell hHeld2.1 hne04, hf3'.cell hHeld2.2 (fun e => by have e : g = g4 := e; omega)⟩ (fun _ => ?_)
     clear hK K n3' n4'
     (try simp only [Act.put, zs1, zs2, zs3])
     refine wpAnyH_done (by kernel_rfl) ?_ _
     have pg43 := pg42.put 2 (.slice (some ⟨g', 0, none⟩) (k + 1) cap)
     simp only [zs1, zs2, zs3] at pg43
     go_wp2_with fail
     go_roundg (n - k)
     case measure => omega
     case rel =>
      refine ⟨k + 1, _, _, by omega, by have := HN.out; have := HP.out; omega, by have := HP.out; congr 1; omega, by rw [HSN.out, List.map_append]; exact own_at hown2 (fun g h1 h2 => hf3'.block g h2 (by show ¬ g = g4; omega)), ?_, h2'.far hf3' (fun h => by have := hz0 _ h; omega), hV2'.setCell lg4 _, hf3'.blk ps2' (fun e => nzg4 e), hf3'.blk pr2' (fun e => neg4 e), pg43, ?_⟩
      · intro j hj
        by_cases h : j < k
        · exact hkd j h
        · obtain rfl : j = k := by omega
          rw [HP.out]
          exact HK2.out
      · have := hgr.size
        have := hb1.size
        have := hf3'.size
        omega
   ·
    have k2 : ((P.kd (ws.drop p) : Int) == 2) = false := beq_eq_false_iff_ne.2 (by omega)
    obtain ⟨en, eb⟩ := nms_at ws k q hkd (by rw [HP.out]; exact hk2)
    rw [HP.out] at eb
    obtain ⟨ns, hns⟩ : ∃ ns, ((ws.drop q).take k).map (fun t : Wd => t.2.1) = ns := ⟨_, rfl⟩
    have hnl : k = ns.length := by
     rw [← hns]
     simp
     have := HN.out
     omega
    have en' : P.nms (ws.drop q) = ns := en.trans hns
    rw [hns] at hown
    have hXe := hXe
    unfold P.bound at hXe
    rw [en', eb] at hXe
    subst hnl
    obtain ⟨Rn, hRn⟩ : ∃ R : Nat → Prop, (fun b => w3.heap.size ≤ b ∧ b < wr.heap.size) = R := ⟨_, rfl⟩
    have hst : StrL wr Rn B5 c5 ns := by
     rw [← hRn]
     exact (nm_own rfl hown).1.keep (fun _ _ _ h => h) (fun b h => ⟨h.1, h.2.1⟩)
    have HST := Lib.hid hst
    obtain ⟨X2, hX2⟩ : ∃ x, P.tx (ws.drop p) = x := ⟨_, rfl⟩
    have m4 : (X2.toList == [46]) = P.isW ⟨#[46]⟩ (ws.drop p) := by rw [← hX2]; exact tx_beq ⟨#[46]⟩ (by decide) _
    have HX2 := Lib.hid hX2
    clear hX2 hst hown hns en en' eb hk2 hkd
    by_cases hz : ns.length = 0
    ·
     have e0 : ((ns.length : Int) == 0) = true := beq_iff_eq.2 (by omega)
     have hem : ns.isEmpty = true := by rw [List.isEmpty_iff]; exact List.eq_nil_of_length_eq_zero hz
     rw [hem, Bool.true_or, if_pos rfl] at hXe
     clear hz hem m4
     go_wp2_with (first
      | (go_at_call 35; refine (wrong_d h11 p (by omega) _ rfl).mono ?_; rintro ex w13 ⟨⟨cd, p', hwr, hcd, rfl⟩, hb13⟩; have hV13 := below_on hV11 hb13; have pr13 := pr11.below hb13; obtain ⟨⟨p0, p1, p2, p3, p4, p5, p6, p7, p8⟩, z0, z1, z2, z3, z4, z5, z6, z7, z8⟩ := pr13.open9)
      | (go_at_call 170; refine (kind_d h10 p (by omega) _ rfl).mono ?_; rintro ex w11 ⟨rfl, hb11⟩; have h11 := h10.below hb11; have hV11 := below_on hV10 hb11; have ps11 := ps10.below hb11; have pr11 := pr10.below hb11; have pg411 := pg410.below hb11; have n2' : w11.cell? ⟨g4, 2, none⟩ = _ := pg411.cell 2; clear y0 y1; obtain ⟨y0, y1⟩ := ps11.duo))
     refine bodyPost_ret (results_rl rfl _ _ _ _ _ _ _ _ _ _ _ _ rfl (pr13.set9 _ _ _ _ _ _ _ _ _)) rfl ?_
     rw [← hXe, hwr]
     exact dans_bad (below_set9 hV13 hl1 _ _ _ _ _ _ _ _ _) hcd
    have e0 : ((ns.length : Int) == 0) = false := beq_eq_false_iff_ne.2 (by omega)
    have hem : ns.isEmpty = false := by
     rw [List.isEmpty_eq_false_iff]
     intro h
     rw [h] at hz
     exact hz rfl
    rw [hem, Bool.false_or] at hXe
    clear hz hem
    by_cases h5 : P.isW ⟨#[46]⟩ (ws.drop p) = true
    rotate_left
    ·
     rw [Bool.not_eq_true] at h5
     rw [h5] at m4
     have n4 : (X2.toList != [46]) = true := by rw [bne, m4]; rfl
     rw [h5, if_pos (by decide)] at hXe
     clear h5
     go_wp2_with (first
      | (go_at_call 35; refine (wrong_d h12 p (by omega) _ rfl).mono ?_; rintro ex w13 ⟨⟨cd, p', hwr, hcd, rfl⟩, hb13⟩; have hV13 := below_on hV12 hb13; have pr13 := pr12.below hb13; obtain ⟨⟨p0, p1, p2, p3, p4, p5, p6, p7, p8⟩, z0, z1, z2, z3, z4, z5, z6, z7, z8⟩ := pr13.open9)
      | (go_at_call 64; refine (word_d h11 p (by omega) _ rfl).mono ?_; rw [HX2.out]; rintro ex w12 ⟨rfl, hb12⟩; have h12 := h11.below hb12; have hV12 := below_on hV11 hb12; have ps12 := ps11.below hb12; have pr12 := pr11.below hb12; have pg412 := pg411.below hb12; clear y0 y1; obtain ⟨y0, y1⟩ := ps12.duo)
      | (go_at_call 170; refine (kind_d h10 p (by omega) _ rfl).mono ?_; rintro ex w11 ⟨rfl, hb11⟩; have h11 := h10.below hb11; have hV11 := below_on hV10 hb11; have ps11 := ps10.below hb11; have pr11 := pr10.below hb11; have pg411 := pg410.below hb11; have n2' : w11.cell? ⟨g4, 2, none⟩ = _ := pg411.cell 2; clear y0 y1; obtain ⟨y0, y1⟩ := ps11.duo))
     refine bodyPost_ret (results_rl rfl _ _ _ _ _ _ _ _ _ _ _ _ rfl (pr13.set9 _ _ _ _ _ _ _ _ _)) rfl ?_
     rw [← hXe, hwr]
     exact dans_bad (below_set9 hV13 hl1 _ _ _ _ _ _ _ _ _) hcd
    have hal3 : p + 1 ≤ ws.length := isW_lt h5
    rw [h5] at m4
    have n4 : (X2.toList != [46]) = false := by rw [bne, m4]; rfl
    rw [h5, if_neg (by decide), tail_drop] at hXe
    clear h5
    have wap' : IntKind.i64.wrap ((p : Int) + 1) = (p : Int) + 1 := by rw [wap]; omega
    clear wap
    cases hY : P.G e f .form (ws.drop (p + 1)) with
    | out => rw [hY] at hXe; exact absurd hXe.symm hX
    | bad cd pz =>
     rw [hY] at hXe
     have hXe : P.Rd.bad cd pz = X := hXe
     subst hXe
     have HY := Lib.hid hY
     clear hX hY
     go_upto_region 18 with (first
      | (go_at_call 64; refine (word_d h11 p (by omega) _ rfl).mono ?_; rw [HX2.out]; rintro ex w12 ⟨rfl, hb12⟩; have h12 := h11.below hb12; have hV12 := below_on hV11 hb12; have ps12 := ps11.below hb12; have pr12 := pr11.below hb12; have pg412 := pg411.below hb12; clear y0 y1; obtain ⟨y0, y1⟩ := ps12.duo)
      | (go_at_call 170; refine (kind_d h10 p (by omega) _ rfl).mono ?_; rintro ex w11 ⟨rfl, hb11⟩; have h11 := h10.below hb11; have hV11 := below_on hV10 hb11; have ps11 := ps10.below hb11; have pr11 := pr10.below hb11; have pg411 := pg410.below hb11; have n2' : w11.cell? ⟨g4, 2, none⟩ = _ := pg411.cell 2; clear y0 y1; obtain ⟨y0, y1⟩ := ps11.duo))
     clear n2' hV10 hV11 ps11 pr11 pg411 h10 h11
     go_upto_region 19 with (go_at_call 34; refine (HFO.out.bad h12 hal3 (by omega) HY.out).mono ?_; rintro ex w13 ⟨hcd, ⟨z3, rfl⟩, hb13⟩)
     have cd0 : ((cd : Int) == 0) = false := by simp; omega
     have cd1 : ((cd : Int) != 0) = true := by simp; omega
     have h13 := h12.below hb13
     have hV13 := below_on hV12 hb13
     have ps13 := ps12.below hb13
     have pr13 := pr12.below hb13
     have pg413 := pg412.below hb13
     clear h12 hV12 ps12 pr12 y0 y1 pg412
     obtain ⟨y0, y1⟩ := ps13.duo
     obtain ⟨w14, hw14, pg514, hb14⟩ := made_blk w13 #[.int .i64 0, .string ⟨#[]⟩, .slice none 0 0, .bool false, .slice none 0 0, .slice none 0 0, .int .i64 z3, .int .i64 (cd : Nat), .int .i64 (pz : Nat)] 56
     obtain ⟨g5, hg5⟩ : ∃ x, x = w13.heap.size := ⟨_, rfl⟩
     rw [← hw14, ← hg5]
     rw [← hg5] at pg514
     have lg5 : w.heap.size ≤ g5 := by have := hV13.size; omega
     have neg5 : g1 ≠ g5 := by have := pr13.lt; omega
     have nzg5 : g0 ≠ g5 := by have := ps13.lt; omega
     have neg4g5 : g4 ≠ g5 := by have := pg413.lt; omega
     clear hw14 hg5
     have h14 := h13.below hb14
     have hV14 := below_on hV13 hb14
     have ps14 := ps13.below hb14
     have pr14 := pr13.below hb14
     have pg414 := pg413.below hb14
     clear h13 hV13 ps13 pr13 y0 y1 pg413
     obtain ⟨y0, y1⟩ := ps14.duo
     obtain ⟨⟨q0, q1, q2, q3, q4, q5, q6, q7, q8⟩, x0, x1, x2, x3, x4, x5, x6, x7, x8⟩ := pg514.open9
     obtain ⟨⟨p0, p1, p2, p3, p4, p5, p6, p7, p8⟩, z0, z1, z2, z3, z4, z5, z6, z7, z8⟩ := pr14.open9
     go_wp2_with fail
     refine bodyPost_ret (results_rl rfl _ _ _ _ _ _ _ _ _ _ _ _ rfl (pr14.set9 _ _ _ _ _ _ _ _ _)) rfl ?_
     exact dans_bad (below_set9 hV14 hl1 _ _ _ _ _ _ _ _ _) hcd
    | ok u r =>
     rw [hY] at hXe
     have hXe : P.Rd.ok (.node kk ⟨#[]⟩ ns false [] [u]) r = X := hXe
     subst hXe
     have HY := Lib.hid hY
     clear hX hY
     go_upto_region 18 with (first
      | (go_at_call 64; refine (word_d h11 p (by omega) _ rfl).mono ?_; rw [HX2.out]; rintro ex w12 ⟨rfl, hb12⟩; have h12 := h11.below hb12; have hV12 := below_on hV11 hb12; have ps12 := ps11.below hb12; have pr12 := pr11.below hb12; have pg412 := pg411.below hb12; clear y0 y1; obtain ⟨y0, y1⟩ := ps12.duo)
      | (go_at_call 170; refine (kind_d h10 p (by omega) _ rfl).mono ?_; rintro ex w11 ⟨rfl, hb11⟩; have h11 := h10.below hb11; have hV11 := below_on hV10 hb11; have ps11 := ps10.below hb11; have pr11 := pr10.below hb11; have pg411 := pg410.below hb11; have n2' : w11.cell? ⟨g4, 2, none⟩ = _ := pg411.cell 2; clear y0 y1; obtain ⟨y0, y1⟩ := ps11.duo))
     clear n2' hV10 hV11 ps11 pr11 pg411 h10 h11
     go_upto_region 19 with (go_at_call 34; refine (HFO.out.ok h12 hal3 (by omega) HY.out).mono ?_; rintro ex w13 ⟨⟨A1, c1, A2, c2, A3, c3, a', rfl, rfl, ha', hin⟩, hb13⟩)
     obtain ⟨Ru, hRu⟩ : ∃ R : Nat → Prop, DR R0 w12.heap.size w13.heap.size = R := ⟨_, rfl⟩
     rw [hRu] at hin
     have hinu13 := hin
     clear hin
     have nug1 : ¬ Ru g1 := by
      rw [← hRu]
      rintro (h | ⟨h, _⟩)
      · have := hz0 _ h; omega
      · have := pr12.lt; omega
     have nug4 : ¬ Ru g4 := by
      rw [← hRu]
      rintro (h | ⟨h, _⟩)
      · have := hz0 _ h; omega
      · have := pg412.lt; omega
     have hqu : ∀ b, Ru b → b < w13.heap.size := by
      rw [← hRu]
      rintro b (h | ⟨_, h⟩)
      · have := hz0 _ h; have := hV12.size; have := hb13.size; omega
      · exact h
     have hwu : ∀ b, Ru b → R0 b ∨ w.heap.size ≤ b := by
      rw [← hRu]
      rintro b (h | ⟨h, _⟩)
      · exact .inl h
      · exact .inr (Nat.le_trans hV12.size h)
     clear hRu
     have h13 := h12.below hb13
     have hV13 := below_on hV12 hb13
     have ps13 := ps12.below hb13
     have pr13 := pr12.below hb13
     have pg413 := pg412.below hb13
     clear h12 hV12 ps12 pr12 y0 y1 pg412
     obtain ⟨y0, y1⟩ := ps13.duo
     obtain ⟨w14, hw14, pg514, hb14⟩ := made_blk w13 #[.int .i64 u.k, .string u.nm, .slice A1 u.ns.length c1, .bool u.ng, .slice A2 u.mg.length c2, .slice A3 u.ks.length c3, .int .i64 (a' : Nat), .int .i64 0, .int .i64 0] 56
     obtain ⟨g5, hg5⟩ : ∃ x, x = w13.heap.size := ⟨_, rfl⟩
     rw [← hw14, ← hg5]
     rw [← hg5] at pg514
     have hgl5 : wr.heap.size ≤ g5 := by have := hb11.size; have := hb12.size; have := hb13.size; omega
     have lg5 : w.heap.size ≤ g5 := by have := hV13.size; omega
     have neg5 : g1 ≠ g5 := by have := pr13.lt; omega
     have nzg5 : g0 ≠ g5 := by have := ps13.lt; omega
     have neg4g5 : g4 ≠ g5 := by have := pg413.lt; omega
     have nug5 : ¬ Ru g5 := fun h => by have := hqu _ h; omega
     have hinu14 := hinu13.below hb14
     replace hqu : ∀ b, Ru b → b < w14.heap.size := fun b h => Nat.lt_of_lt_of_le (hqu b h) hb14.size
     clear hw14 hg5
     have h14 := h13.below hb14
     have hV14 := below_on hV13 hb14
     have ps14 := ps13.below hb14
     have pr14 := pr13.below hb14
     have pg414 := pg413.below hb14
     clear h13 hV13 ps13 pr13 y0 y1 pg413
     obtain ⟨y0, y1⟩ := ps14.duo
     have HA := below_alloc1 w14 (.cells #[.int .i64 u.k, .string u.nm, .slice A1 u.ns.length c1, .bool u.ng, .slice A2 u.mg.length c2, .slice A3 u.ks.length c3] 28)
     obtain ⟨⟨r0, r1, r2, r3, r4, r5, r6, r7, r8⟩, v0, v1, v2, v3, v4, v5, v6, v7, v8⟩ := pg514.open9
     obtain ⟨⟨q0, q1, q2, q3, q4, q5, q6, q7, q8⟩, x0, x1, x2, x3, x4, x5, x6, x7, x8⟩ := (pg514.below HA).open9
     obtain ⟨⟨p0, p1, p2, p3, p4, p5, p6, p7, p8⟩, z0, z1, z2, z3, z4, z5, z6, z7, z8⟩ := (pr14.below HA).open9
     obtain ⟨⟨s0, s1, s2, s3, s4, s5⟩, k0, k1, k2', k3, k4, k5⟩ := (pg414.below HA).open6
     have ne' : ¬ (g5 = g1) := fun e => neg5 e.symm
     have ne4 : ¬ (g4 = g1) := fun e => neg4 e.symm
     have ne5 : ¬ (g5 = g4) := fun e => neg4g5 e.symm
     go_wp2_with fail
     refine bodyPost_ret (results_rl rfl _ _ _ _ _ _ _ _ _ _ _ _ rfl ((((pr14.below HA).far neg4 5 _).far6 neg5 _ _ _ _ _ _).set9 _ _ _ _ _ _ _ _ _)) rfl ?_
     have hfa := fr1 (w14.alloc (.cells #[.int .i64 u.k, .string u.nm, .slice A1 u.ns.length c1, .bool u.ng, .slice A2 u.mg.length c2, .slice A3 u.ks.length c3] 28)) g4 5 (.slice (some ⟨w14.heap.size, 0, none⟩) 1 1)
     obtain ⟨wA, hwA⟩ : ∃ x, (w14.alloc (.cells #[.int .i64 u.k, .string u.nm, .slice A1 u.ns.length c1, .bool u.ng, .slice A2 u.mg.length c2, .slice A3 u.ks.length c3] 28)).setCell ⟨g4, 5, none⟩ (.slice (some ⟨w14.heap.size, 0, none⟩) 1 1) = x := ⟨_, rfl⟩
     rw [hwA] at hfa ⊢
     have hfb := fr6 wA g5 (.int .i64 kk) (.string ⟨#[]⟩) (.slice B5 ns.length c5) (.bool false) (.slice none 0 0) (.slice (some ⟨w14.heap.size, 0, none⟩) 1 1)
     have hsa : (w14.alloc (.cells #[.int .i64 u.k, .string u.nm, .slice A1 u.ns.length c1, .bool u.ng, .slice A2 u.mg.length c2, .slice A3 u.ks.length c3] 28)).heap.size = w14.heap.size + 1 := by simp
     have hz1 := hfa.size
     have hz2 := hfb.size
     have pk := Blk.new w14 28 #[.int .i64 u.k, .string u.nm, .slice A1 u.ns.length c1, .bool u.ng, .slice A2 u.mg.length c2, .slice A3 u.ks.length c3]
     have hl1' := pr14.lt
     have hl4' := pg414.lt
     have hl5' := pg514.lt
     have hs14 : wr.heap.size ≤ g5 := hgl5
     have hvs := hV14.size
     have hVA : Below w.heap.size w wA := by rw [← hwA]; exact (below_on hV14 HA).setCell lg4 _
     have nn4 : ¬ Rn g4 := by rw [← hRn]; intro h; omega
     have nn5 : ¬ Rn g5 := by rw [← hRn]; intro h; omega
     have nn1 : ¬ Rn g1 := by rw [← hRn]; intro h; omega
     have hnm := ((((((HST.out.below hb11).below hb12).below hb13).below hb14).below HA).far hfa nn4).far hfb nn5
     refine dans_ok (t := .node kk ⟨#[]⟩ ns false [] [u]) (R := fun b => R0 b ∨ Ru b ∨ Rn b ∨ b = w14.heap.size) (below_set9 (below_set6 hVA lg5 _ _ _ _ _ _) hl1 _ _ _ _ _ _ _ _ _) (in_oneD (R := Ru) (R0 := R0) ((hnm.far (fr9 _ g1 _ _ _ _ _ _ _ _ _) nn1).keep (fun _ _ _ h => h) (fun _ h => .inr (.inr (.inl h)))) (Lm.nil _ _) ((fr9 _ g1 _ _ _ _ _ _ _ _ _).blk (hfb.blk (hfa.blk pk (by show ¬ _ = _; omega)) (by show ¬ _ = _; omega)) (by show ¬ _ = _; omega)) ((((hinu14.below HA).far hfa nug4).far hfb nug5).far (fr9 _ g1 _ _ _ _ _ _ _ _ _) nug1) (fun _ h => .inl h) (fun _ h => .inr (.inl h)) (.inr (.inr (.inr rfl)))) ?_ (fun b h => Nat.lt_of_lt_of_le ?_ (fr9 _ g1 _ _ _ _ _ _ _ _ _).size) ha'
     · rintro b (h | h | h | h)
       · exact .inl h
       · exact hwu _ h
       · rw [← hRn] at h; exact .inr (by omega)
       · exact .inr (by omega)
     · rcases h with h | h | h | h
       · have := hz0 _ h; omega
       · have := hqu _ h; omega
       · rw [← hRn] at h; have := hs14; omega
       · omega
end
end
end Go.Proofs.YthiadenmljbdaaaGreatDoor

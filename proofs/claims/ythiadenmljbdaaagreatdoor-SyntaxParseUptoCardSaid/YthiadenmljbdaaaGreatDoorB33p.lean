/-
  p: the parts DTotal.
-/
import Derived.Test.YthiadenmljbdaaaGreatDoorB29p
import Derived.Deep.Cut
namespace Go.Proofs.YthiadenmljbdaaaGreatDoor
section
open Go.RowKit
attribute [local go_sem] Oper.semAt_some
section
variable {R0 : Nat → Prop} {A : Option Addr} {c e : Nat} {ws : List Wd}
set_option maxRecDepth 100000 in
set_option maxHeartbeats 6400000 in
theorem sum_d (f : Nat) (hop : ∀ f', f' ≤ f → DRule R0 A c ws e f' .oper 186) : DRule R0 A c ws e (f + 1) .sum 178 := by
 intro w a z hz h ha hX
 subst hz
 rw [P.G_succ] at hX ⊢
 obtain ⟨X, hXe⟩ : ∃ X, P.step e (P.G e f) .sum (ws.drop a) = X := ⟨_, rfl⟩
 rw [hXe] at hX ⊢
 unfold xv
 obtain ⟨w0, g0, g1, hW, hg0, hg1, ps0, pr0, hV0⟩ := enter_d w A ws.length c e
 have h0 := h.below hV0
 have hn := h.2.1
 have hz0 := h.2.2
 have ha1 : a ≤ 1048577 := by omega
 have hl1 : w.heap.size ≤ g1 := by omega
 have hl0 : w.heap.size ≤ g0 := by omega
 have wa1 : IntKind.i64.wrap ((a : Int) + 1) = (a : Int) + 1 := wrap_nat (by omega) (by omega)
 have HW := Lib.hid hW
 have HG0 := Lib.hid hg0
 have HG1 := Lib.hid hg1
 clear h hW hg0 hg1
 have HOP := Lib.hid hop
 clear hop
 have hXe : (P.G e f .oper (ws.drop a)).bind (fun t r => P.G e f (.sumL t) r) = X := hXe
 cases hY : P.G e f .oper (ws.drop a) with
 | out => rw [hY] at hXe; exact absurd hXe.symm hX
 | bad cd p =>
  rw [hY] at hXe
  have hXe : P.Rd.bad cd p = X := hXe
  subst hXe
  have HY := Lib.hid hY
  clear hX hY
  go_enter Tryz.func178, Tryz.ntmps178
  go_upto_region 1 with (fail)
  rw [← HW.out, ← HG1.out, ← HG0.out]
  obtain ⟨y0, y1⟩ := ps0.duo
  go_upto_region 2 with (go_at_call 186; refine ((HOP.out f (Nat.le_refl _)).bad h0 ha (by omega) HY.out).mono ?_; rintro ex w1 ⟨hcd, ⟨z3, rfl⟩, hb1⟩)
  have cd0 : ((cd : Int) == 0) = false := by simp; omega
  have cd1 : ((cd : Int) != 0) = true := by simp; omega
  have h1 := h0.below hb1
  have hV1 := below_on hV0 hb1
  have ps1 := ps0.below hb1
  have pr1 := pr0.below hb1
  clear h0 hV0 ps0 pr0 y0 y1
  obtain ⟨y0, y1⟩ := ps1.duo
  obtain ⟨w2, hw2, pg22, hb2⟩ := made_blk w1 #[.int .i64 0, .string ⟨#[]⟩, .slice none 0 0, .bool false, .slice none 0 0, .slice none 0 0, .int .i64 z3, .int .i64 (cd : Nat), .int .i64 (p : Nat)] 56
  obtain ⟨g2, hg2⟩ : ∃ x, x = w1.heap.size := ⟨_, rfl⟩
  rw [← hw2, ← hg2]
  rw [← hg2] at pg22
  have lg2 : w.heap.size ≤ g2 := by have := hV1.size; omega
  have neg2 : g1 ≠ g2 := by have := pr1.lt; omega
  have nzg2 : g0 ≠ g2 := by have := ps1.lt; omega
  clear hw2 hg2
  have h2 := h1.below hb2
  have hV2 := below_on hV1 hb2
  have ps2 := ps1.below hb2
  have pr2 := pr1.below hb2
  clear h1 hV1 ps1 pr1 y0 y1
  obtain ⟨y0, y1⟩ := ps2.duo
  clear y0 y1
  go_loopg [6] 1 (fun gk _ wr => wr = w2)
  case atStart => rfl
  case round =>
   obtain rfl := hrel
   have qx := pg22.open9
   obtain ⟨⟨p0, p1, p2, p3, p4, p5, p6, p7, p8⟩, z0, z1, z2, z3, z4, z5, z6, z7, z8⟩ := pr2.open9
   go_wp2_with fail
   refine bodyPost_ret (results_rl rfl _ _ _ _ _ _ _ _ _ _ _ _ rfl (pr2.set9 _ _ _ _ _ _ _ _ _)) rfl ?_
   exact dans_bad (below_set9 hV2 hl1 _ _ _ _ _ _ _ _ _) hcd
 | ok u r =>
  rw [hY] at hXe
  have hXe : P.G e f (.sumL u) r = X := hXe
  have HY := Lib.hid hY
  clear hY
  go_enter Tryz.func178, Tryz.ntmps178
  go_upto_region 1 with (fail)
  rw [← HW.out, ← HG1.out, ← HG0.out]
  obtain ⟨y0, y1⟩ := ps0.duo
  go_upto_region 2 with (go_at_call 186; refine ((HOP.out f (Nat.le_refl _)).ok h0 ha (by omega) HY.out).mono ?_; rintro ex w1 ⟨⟨A1, c1, A2, c2, A3, c3, a', rfl, rfl, ha', hin⟩, hb1⟩)
  obtain ⟨Ru, hRu⟩ : ∃ R : Nat → Prop, DR R0 w0.heap.size w1.heap.size = R := ⟨_, rfl⟩
  rw [hRu] at hin
  have hinu1 := hin
  clear hin
  have nug1 : ¬ Ru g1 := by
   rw [← hRu]
   rintro (h | ⟨h, _⟩)
   · have := hz0 _ h; omega
   · have := pr0.lt; omega
  have hqu : ∀ b, Ru b → b < w1.heap.size := by
   rw [← hRu]
   rintro b (h | ⟨_, h⟩)
   · have := hz0 _ h; have := hV0.size; have := hb1.size; omega
   · exact h
  have hwu : ∀ b, Ru b → R0 b ∨ w.heap.size ≤ b := by
   rw [← hRu]
   rintro b (h | ⟨h, _⟩)
   · exact .inl h
   · exact .inr (Nat.le_trans hV0.size h)
  clear hRu
  have h1 := h0.below hb1
  have hV1 := below_on hV0 hb1
  have ps1 := ps0.below hb1
  have pr1 := pr0.below hb1
  clear h0 hV0 ps0 pr0 y0 y1
  obtain ⟨y0, y1⟩ := ps1.duo
  obtain ⟨w2, hw2, pg22, hb2⟩ := made_blk w1 #[.int .i64 u.k, .string u.nm, .slice A1 u.ns.length c1, .bool u.ng, .slice A2 u.mg.length c2, .slice A3 u.ks.length c3, .int .i64 (a' : Nat), .int .i64 0, .int .i64 0] 56
  obtain ⟨g2, hg2⟩ : ∃ x, x = w1.heap.size := ⟨_, rfl⟩
  rw [← hw2, ← hg2]
  rw [← hg2] at pg22
  have lg2 : w.heap.size ≤ g2 := by have := hV1.size; omega
  have neg2 : g1 ≠ g2 := by have := pr1.lt; omega
  have nzg2 : g0 ≠ g2 := by have := ps1.lt; omega
  have nug2 : ¬ Ru g2 := fun h => by have := hqu _ h; omega
  have hinu2 := hinu1.below hb2
  replace hqu : ∀ b, Ru b → b < w2.heap.size := fun b h => Nat.lt_of_lt_of_le (hqu b h) hb2.size
  clear hw2 hg2
  have h2 := h1.below hb2
  have hV2 := below_on hV1 hb2
  have ps2 := ps1.below hb2
  have pr2 := pr1.below hb2
  clear h1 hV1 ps1 pr1 y0 y1
  obtain ⟨y0, y1⟩ := ps2.duo
  clear y0 y1
  go_wp2_with fail
  go_loopg [6] (ws.length + 1 - a') (fun gk _ wr => ∃ (a1 m1 : Nat) (t : T) (B1 : Option Addr) (d1 : Nat) (B2 : Option Addr) (d2 : Nat) (B3 : Option Addr) (d3 : Nat) (Rt : Nat → Prop), gk + a1 = ws.length + 1 ∧ m1 ≤ f ∧ X = P.G e m1 (.sumL t) (ws.drop a1) ∧ a1 ≤ ws.length ∧ Dx wr R0 A ws ∧ Below w.heap.size w wr ∧ Blk wr g0 54 #[.slice A ws.length c, .int .i64 (e : Nat)] ∧ Blk wr g1 56 #[.int .i64 0, .string ⟨#[]⟩, .slice none 0 0, .bool false, .slice none 0 0, .slice none 0 0, .int .i64 0, .int .i64 0, .int .i64 0] ∧ Blk wr g2 56 #[.int .i64 t.k, .string t.nm, .slice B1 t.ns.length d1, .bool t.ng, .slice B2 t.mg.length d2, .slice B3 t.ks.length d3, .int .i64 (a1 : Nat), .int .i64 0, .int .i64 0] ∧ T.In wr Rt t (.agg #[.int .i64 t.k, .string t.nm, .slice B1 t.ns.length d1, .bool t.ng, .slice B2 t.mg.length d2, .slice B3 t.ks.length d3]) ∧ ¬ Rt g1 ∧ ¬ Rt g2 ∧ (∀ b, Rt b → b < wr.heap.size) ∧ (∀ b, Rt b → R0 b ∨ w.heap.size ≤ b))
  case atStart => exact ⟨a', f, u, A1, c1, A2, c2, A3, c3, Ru, by omega, Nat.le_refl _, hXe.symm, ha', h2, hV2, ps2, pr2, pg22, hinu2, nug1, nug2, hqu, hwu⟩
  case round =>
   clear h2 hV2 ps2 pr2 pg22 hinu2 nug1 nug2 hqu hwu hXe ha'
   obtain ⟨a1, m1, t, B1, d1, B2, d2, B3, d3, Rt, hgk, hm1, hXe, ha1', h10, hV10, ps10, pr10, pg210, hint10, ntg1, ntg2, hqt, hwt⟩ := hrel
   obtain ⟨X2, hX2⟩ : ∃ x, P.tx (ws.drop a1) = x := ⟨_, rfl⟩
   have HWD := Lib.hid (fun (w' : World) (h : Dx w' R0 A ws) => by have h := word_d (c := c) (e := e) h a1 (by omega) _ rfl; rw [hX2] at h; exact h)
   have wa3 : IntKind.i64.wrap ((a1 : Int) + 1) = (a1 : Int) + 1 := wrap_nat (by omega) (by omega)
   have m45 : (X2.toList == [45]) = P.isW ⟨#[45]⟩ (ws.drop a1) := by rw [← hX2]; exact tx_beq ⟨#[45]⟩ (by decide) _
   have m43 : (X2.toList == [43]) = P.isW ⟨#[43]⟩ (ws.drop a1) := by rw [← hX2]; exact tx_beq ⟨#[43]⟩ (by decide) _
   clear hX2
   cases m1 with
   | zero => exact absurd hXe hX
   | succ m2 =>
    rw [P.G_succ] at hXe
    by_cases c45 : P.isW ⟨#[45]⟩ (ws.drop a1) = true
    ·
     simp only [P.step, c45, if_true, tail_drop] at hXe
     have hal := isW_lt c45
     rw [c45] at m45
     replace m43 : (X2.toList == [43]) = false := by rw [show X2.toList = [45] from by simpa using m45]; decide
     clear c45
     cases hY : P.G e m2 .oper (ws.drop (a1 + 1)) with
     | out => rw [hY] at hXe; exact absurd hXe hX
     | bad cd p =>
      rw [hY] at hXe
      have hXe : X = .bad cd p := hXe
      have HY := Lib.hid hY
      clear hY
      have qx := pg210.open9
      obtain ⟨y0, y1⟩ := ps10.duo
      go_upto_region 3 with (first
       | (go_at_call 64; refine (HWD.out _ h11).mono ?_; rintro ex w12 ⟨rfl, hb12⟩; have h12 := h11.below hb12; have hV12 := below_on hV11 hb12; have ps12 := ps11.below hb12; have pr12 := pr11.below hb12; have pg212 := pg211.below hb12; have hint12 := hint11.below hb12; replace hqt : ∀ b, Rt b → b < w12.heap.size := fun b h => Nat.lt_of_lt_of_le (hqt b h) hb12.size; clear h11 hV11 ps11 pr11 y0 y1 pg211 qx hint11; obtain ⟨y0, y1⟩ := ps12.duo; have qx := pg212.open9)
       | (go_at_call 64; refine (HWD.out _ h10).mono ?_; rintro ex w11 ⟨rfl, hb11⟩; have h11 := h10.below hb11; have hV11 := below_on hV10 hb11; have ps11 := ps10.below hb11; have pr11 := pr10.below hb11; have pg211 := pg210.below hb11; have hint11 := hint10.below hb11; replace hqt : ∀ b, Rt b → b < w11.heap.size := fun b h => Nat.lt_of_lt_of_le (hqt b h) hb11.size; clear h10 hV10 ps10 pr10 y0 y1 pg210 qx hint10; obtain ⟨y0, y1⟩ := ps11.duo; have qx := pg211.open9))
      go_upto_region 6 with (first
       | (go_at_call 64; refine (HWD.out _ h12).mono ?_; rintro ex w13 ⟨rfl, hb13⟩; have h13 := h12.below hb13; have hV13 := below_on hV12 hb13; have ps13 := ps12.below hb13; have pr13 := pr12.below hb13; have pg213 := pg212.below hb13; have hint13 := hint12.below hb13; replace hqt : ∀ b, Rt b → b < w13.heap.size := fun b h => Nat.lt_of_lt_of_le (hqt b h) hb13.size; clear h12 hV12 ps12 pr12 y0 y1 pg212 qx hint12; obtain ⟨y0, y1⟩ := ps13.duo; have qx := pg213.open9))
      go_upto_region 7 with (go_at_call 186; refine ((HOP.out m2 (by omega)).bad h13 hal (by omega) HY.out).mono ?_; rintro ex w14 ⟨hcd, ⟨z3, rfl⟩, hb14⟩)
      have cd0 : ((cd : Int) == 0) = false := by simp; omega
      have cd1 : ((cd : Int) != 0) = true := by simp; omega
      have h14 := h13.below hb14
      have hV14 := below_on hV13 hb14
      have ps14 := ps13.below hb14
      have pr14 := pr13.below hb14
      have pg214 := pg213.below hb14
      clear h13 hV13 ps13 pr13 y0 y1 pg213
      obtain ⟨y0, y1⟩ := ps14.duo
      obtain ⟨w15, hw15, pg315, hb15⟩ := made_blk w14 #[.int .i64 0, .string ⟨#[]⟩, .slice none 0 0, .bool false, .slice none 0 0, .slice none 0 0, .int .i64 z3, .int .i64 (cd : Nat), .int .i64 (p : Nat)] 56
      obtain ⟨g3, hg3⟩ : ∃ x, x = w14.heap.size := ⟨_, rfl⟩
      rw [← hw15, ← hg3]
      rw [← hg3] at pg315
      have lg3 : w.heap.size ≤ g3 := by have := hV14.size; omega
      have neg3 : g1 ≠ g3 := by have := pr14.lt; omega
      have nzg3 : g0 ≠ g3 := by have := ps14.lt; omega
      have neg2g3 : g2 ≠ g3 := by have := pg214.lt; omega
      clear hw15 hg3
      have h15 := h14.below hb15
      have hV15 := below_on hV14 hb15
      have ps15 := ps14.below hb15
      have pr15 := pr14.below hb15
      have pg215 := pg214.below hb15
      clear h14 hV14 ps14 pr14 y0 y1 pg214
      obtain ⟨y0, y1⟩ := ps15.duo
      clear qx
      have qx := pg315.open9
      obtain ⟨⟨p0, p1, p2, p3, p4, p5, p6, p7, p8⟩, z0, z1, z2, z3, z4, z5, z6, z7, z8⟩ := pr15.open9
      go_wp2_with fail
      refine bodyPost_ret (results_rl rfl _ _ _ _ _ _ _ _ _ _ _ _ rfl (pr15.set9 _ _ _ _ _ _ _ _ _)) rfl ?_
      rw [hXe]
      exact dans_bad (below_set9 hV15 hl1 _ _ _ _ _ _ _ _ _) hcd
     | ok u r =>
      rw [hY] at hXe
      have hXe : X = P.G e m2 (.sumL (P.nd 5 [t, u])) r := hXe
      have hgl := P.G_len _ _ _ _ _ _ hY
      have HY := Lib.hid hY
      clear hY
      have qx := pg210.open9
      obtain ⟨y0, y1⟩ := ps10.duo
      go_upto_region 3 with (first
       | (go_at_call 64; refine (HWD.out _ h11).mono ?_; rintro ex w12 ⟨rfl, hb12⟩; have h12 := h11.below hb12; have hV12 := below_on hV11 hb12; have ps12 := ps11.below hb12; have pr12 := pr11.below hb12; have pg212 := pg211.below hb12; have hint12 := hint11.below hb12; replace hqt : ∀ b, Rt b → b < w12.heap.size := fun b h => Nat.lt_of_lt_of_le (hqt b h) hb12.size; clear h11 hV11 ps11 pr11 y0 y1 pg211 qx hint11; obtain ⟨y0, y1⟩ := ps12.duo; have qx := pg212.open9)
       | (go_at_call 64; refine (HWD.out _ h10).mono ?_; rintro ex w11 ⟨rfl, hb11⟩; have h11 := h10.below hb11; have hV11 := below_on hV10 hb11; have ps11 := ps10.below hb11; have pr11 := pr10.below hb11; have pg211 := pg210.below hb11; have hint11 := hint10.below hb11; replace hqt : ∀ b, Rt b → b < w11.heap.size := fun b h => Nat.lt_of_lt_of_le (hqt b h) hb11.size; clear h10 hV10 ps10 pr10 y0 y1 pg210 qx hint10; obtain ⟨y0, y1⟩ := ps11.duo; have qx := pg211.open9))
      go_upto_region 6 with (first
       | (go_at_call 64; refine (HWD.out _ h12).mono ?_; rintro ex w13 ⟨rfl, hb13⟩; have h13 := h12.below hb13; have hV13 := below_on hV12 hb13; have ps13 := ps12.below hb13; have pr13 := pr12.below hb13; have pg213 := pg212.below hb13; have hint13 := hint12.below hb13; replace hqt : ∀ b, Rt b → b < w13.heap.size := fun b h => Nat.lt_of_lt_of_le (hqt b h) hb13.size; clear h12 hV12 ps12 pr12 y0 y1 pg212 qx hint12; obtain ⟨y0, y1⟩ := ps13.duo; have qx := pg213.open9))
      go_upto_region 7 with (go_at_call 186; refine ((HOP.out m2 (by omega)).ok h13 hal (by omega) HY.out).mono ?_; rintro ex w14 ⟨⟨A1, c1, A2, c2, A3, c3, a', rfl, rfl, ha', hin⟩, hb14⟩)
      obtain ⟨Ru, hRu⟩ : ∃ R : Nat → Prop, DR R0 w13.heap.size w14.heap.size = R := ⟨_, rfl⟩
      rw [hRu] at hin
      have hinu14 := hin
      clear hin
      have nug1 : ¬ Ru g1 := by
       rw [← hRu]
       rintro (h | ⟨h, _⟩)
       · have := hz0 _ h; omega
       · have := pr13.lt; omega
      have nug2 : ¬ Ru g2 := by
       rw [← hRu]
       rintro (h | ⟨h, _⟩)
       · have := hz0 _ h; omega
       · have := pg213.lt; omega
      have hqu : ∀ b, Ru b → b < w14.heap.size := by
       rw [← hRu]
       rintro b (h | ⟨_, h⟩)
       · have := hz0 _ h; have := hV13.size; have := hb14.size; omega
       · exact h
      have hwu : ∀ b, Ru b → R0 b ∨ w.heap.size ≤ b := by
       rw [← hRu]
       rintro b (h | ⟨h, _⟩)
       · exact .inl h
       · exact .inr (Nat.le_trans hV13.size h)
      clear hRu
      have hint14 := hint13.below hb14
      replace hqt : ∀ b, Rt b → b < w14.heap.size := fun b h => Nat.lt_of_lt_of_le (hqt b h) hb14.size
      have h14 := h13.below hb14
      have hV14 := below_on hV13 hb14
      have ps14 := ps13.below hb14
      have pr14 := pr13.below hb14
      have pg214 := pg213.below hb14
      clear h13 hV13 ps13 pr13 y0 y1 pg213
      obtain ⟨y0, y1⟩ := ps14.duo
      obtain ⟨w15, hw15, pg315, hb15⟩ := made_blk w14 #[.int .i64 u.k, .string u.nm, .slice A1 u.ns.length c1, .bool u.ng, .slice A2 u.mg.length c2, .slice A3 u.ks.length c3, .int .i64 (a' : Nat), .int .i64 0, .int .i64 0] 56
      obtain ⟨g3, hg3⟩ : ∃ x, x = w14.heap.size := ⟨_, rfl⟩
      rw [← hw15, ← hg3]
      rw [← hg3] at pg315
      have lg3 : w.heap.size ≤ g3 := by have := hV14.size; omega
      have neg3 : g1 ≠ g3 := by have := pr14.lt; omega
      have nzg3 : g0 ≠ g3 := by have := ps14.lt; omega
      have neg2g3 : g2 ≠ g3 := by have := pg214.lt; omega
      have nug3 : ¬ Ru g3 := fun h => by have := hqu _ h; omega
      have hinu15 := hinu14.below hb15
      replace hqu : ∀ b, Ru b → b < w15.heap.size := fun b h => Nat.lt_of_lt_of_le (hqu b h) hb15.size
      have ntg3 : ¬ Rt g3 := fun h => by have := hqt _ h; omega
      have hint15 := hint14.below hb15
      replace hqt : ∀ b, Rt b → b < w15.heap.size := fun b h => Nat.lt_of_lt_of_le (hqt b h) hb15.size
      clear hw15 hg3
      have h15 := h14.below hb15
      have hV15 := below_on hV14 hb15
      have ps15 := ps14.below hb15
      have pr15 := pr14.below hb15
      have pg215 := pg214.below hb15
      clear h14 hV14 ps14 pr14 y0 y1 pg214
      obtain ⟨y0, y1⟩ := ps15.duo
      clear qx
      have HA := below_alloc1 w15 (.cells #[.int .i64 t.k, .string t.nm, .slice B1 t.ns.length d1, .bool t.ng, .slice B2 t.mg.length d2, .slice B3 t.ks.length d3, .int .i64 u.k, .string u.nm, .slice A1 u.ns.length c1, .bool u.ng, .slice A2 u.mg.length c2, .slice A3 u.ks.length c3] 28)
      have qx := pg215.open9
      obtain ⟨⟨p0, p1, p2, p3, p4, p5, p6, p7, p8⟩, z0, z1, z2, z3, z4, z5, z6, z7, z8⟩ := pg315.open9
      have rv := (pg215.below HA).open9
      have sk := (pg315.below HA).open9
      go_wp2_with fail
      have hfr := fr9 (w15.alloc (.cells #[.int .i64 t.k, .string t.nm, .slice B1 t.ns.length d1, .bool t.ng, .slice B2 t.mg.length d2, .slice B3 t.ks.length d3, .int .i64 u.k, .string u.nm, .slice A1 u.ns.length c1, .bool u.ng, .slice A2 u.mg.length c2, .slice A3 u.ks.length c3] 28)) g2 (.int .i64 5) (.string ⟨#[]⟩) (.slice none 0 0) (.bool false) (.slice none 0 0) (.slice (some ⟨w15.heap.size, 0, none⟩) 2 2) (.int .i64 (a' : Nat)) (.int .i64 0) (.int .i64 0)
      have hsz := hfr.size
      have hsa : (w15.alloc (.cells #[.int .i64 t.k, .string t.nm, .slice B1 t.ns.length d1, .bool t.ng, .slice B2 t.mg.length d2, .slice B3 t.ks.length d3, .int .i64 u.k, .string u.nm, .slice A1 u.ns.length c1, .bool u.ng, .slice A2 u.mg.length c2, .slice A3 u.ks.length c3] 28)).heap.size = w15.heap.size + 1 := by simp
      have hl2 := pg215.lt
      have hvs := hV15.size
      have hgl2 := hgl.2 rfl
      simp only [List.length_drop] at hgl2
      have hrt := row_two (k := 5) hint15 hinu15 ntg2 nug2 hl2 hfr
      go_roundg (ws.length + 1 - a')
      case measure => omega
      case rel =>
       refine ⟨a', m2, _, none, 0, none, 0, _, 2, _, by omega, by omega, hXe, ha', ((h15.below HA).far hfr (fun h => by have := hz0 _ h; omega)), below_set9 (below_on hV15 HA) lg2 _ _ _ _ _ _ _ _ _, hfr.blk (ps15.below HA) (fun e => nzg2 e), hfr.blk (pr15.below HA) (fun e => neg2 e), (pg215.below HA).set9 _ _ _ _ _ _ _ _ _, hrt, ?_, ?_, ?_, ?_⟩
       · rintro (h | h | h)
         · exact ntg1 h
         · exact nug1 h
         · have := pr15.lt; omega
       · rintro (h | h | h)
         · exact ntg2 h
         · exact nug2 h
         · omega
       · rintro b (h | h | h)
         · have := hqt _ h; omega
         · have := hqu _ h; omega
         · omega
       · rintro b (h | h | h)
         · exact hwt _ h
         · exact hwu _ h
         · exact .inr (by omega)
    rw [Bool.not_eq_true] at c45
    by_cases c43 : P.isW ⟨#[43]⟩ (ws.drop a1) = true
    ·
     simp only [P.step, c45, c43, if_true, Bool.false_eq_true, if_false, tail_drop] at hXe
     have hal := isW_lt c43
     rw [c43] at m43
     replace m45 : (X2.toList == [45]) = false := by rw [show X2.toList = [43] from by simpa using m43]; decide
     clear c45 c43
     cases hY : P.G e m2 .oper (ws.drop (a1 + 1)) with
     | out => rw [hY] at hXe; exact absurd hXe hX
     | bad cd p =>
      rw [hY] at hXe
      have hXe : X = .bad cd p := hXe
      have HY := Lib.hid hY
      clear hY
      have qx := pg210.open9
      obtain ⟨y0, y1⟩ := ps10.duo
      go_upto_region 3 with (first
       | (go_at_call 64; refine (HWD.out _ h10).mono ?_; rintro ex w11 ⟨rfl, hb11⟩; have h11 := h10.below hb11; have hV11 := below_on hV10 hb11; have ps11 := ps10.below hb11; have pr11 := pr10.below hb11; have pg211 := pg210.below hb11; have hint11 := hint10.below hb11; replace hqt : ∀ b, Rt b → b < w11.heap.size := fun b h => Nat.lt_of_lt_of_le (hqt b h) hb11.size; clear h10 hV10 ps10 pr10 y0 y1 pg210 qx hint10; obtain ⟨y0, y1⟩ := ps11.duo; have qx := pg211.open9))
      go_upto_region 6 with (first
       | (go_at_call 64; refine (HWD.out _ h11).mono ?_; rintro ex w12 ⟨rfl, hb12⟩; have h12 := h11.below hb12; have hV12 := below_on hV11 hb12; have ps12 := ps11.below hb12; have pr12 := pr11.below hb12; have pg212 := pg211.below hb12; have hint12 := hint11.below hb12; replace hqt : ∀ b, Rt b → b < w12.heap.size := fun b h => Nat.lt_of_lt_of_le (hqt b h) hb12.size; clear h11 hV11 ps11 pr11 y0 y1 pg211 qx hint11; obtain ⟨y0, y1⟩ := ps12.duo; have qx := pg212.open9))
      go_upto_region 7 with (go_at_call 186; refine ((HOP.out m2 (by omega)).bad h12 hal (by omega) HY.out).mono ?_; rintro ex w13 ⟨hcd, ⟨z3, rfl⟩, hb13⟩)
      have cd0 : ((cd : Int) == 0) = false := by simp; omega
      have cd1 : ((cd : Int) != 0) = true := by simp; omega
      have h13 := h12.below hb13
      have hV13 := below_on hV12 hb13
      have ps13 := ps12.below hb13
      have pr13 := pr12.below hb13
      have pg213 := pg212.below hb13
      clear h12 hV12 ps12 pr12 y0 y1 pg212
      obtain ⟨y0, y1⟩ := ps13.duo
      obtain ⟨w14, hw14, pg314, hb14⟩ := made_blk w13 #[.int .i64 0, .string ⟨#[]⟩, .slice none 0 0, .bool false, .slice none 0 0, .slice none 0 0, .int .i64 z3, .int .i64 (cd : Nat), .int .i64 (p : Nat)] 56
      obtain ⟨g3, hg3⟩ : ∃ x, x = w13.heap.size := ⟨_, rfl⟩
      rw [← hw14, ← hg3]
      rw [← hg3] at pg314
      have lg3 : w.heap.size ≤ g3 := by have := hV13.size; omega
      have neg3 : g1 ≠ g3 := by have := pr13.lt; omega
      have nzg3 : g0 ≠ g3 := by have := ps13.lt; omega
      have neg2g3 : g2 ≠ g3 := by have := pg213.lt; omega
      clear hw14 hg3
      have h14 := h13.below hb14
      have hV14 := below_on hV13 hb14
      have ps14 := ps13.below hb14
      have pr14 := pr13.below hb14
      have pg214 := pg213.below hb14
      clear h13 hV13 ps13 pr13 y0 y1 pg213
      obtain ⟨y0, y1⟩ := ps14.duo
      clear qx
      have qx := pg314.open9
      obtain ⟨⟨p0, p1, p2, p3, p4, p5, p6, p7, p8⟩, z0, z1, z2, z3, z4, z5, z6, z7, z8⟩ := pr14.open9
      go_wp2_with fail
      refine bodyPost_ret (results_rl rfl _ _ _ _ _ _ _ _ _ _ _ _ rfl (pr14.set9 _ _ _ _ _ _ _ _ _)) rfl ?_
      rw [hXe]
      exact dans_bad (below_set9 hV14 hl1 _ _ _ _ _ _ _ _ _) hcd
     | ok u r =>
      rw [hY] at hXe
      have hXe : X = P.G e m2 (.sumL (P.nd 4 [t, u])) r := hXe
      have hgl := P.G_len _ _ _ _ _ _ hY
      have HY := Lib.hid hY
      clear hY
      have qx := pg210.open9
      obtain ⟨y0, y1⟩ := ps10.duo
      go_upto_region 3 with (first
       | (go_at_call 64; refine (HWD.out _ h10).mono ?_; rintro ex w11 ⟨rfl, hb11⟩; have h11 := h10.below hb11; have hV11 := below_on hV10 hb11; have ps11 := ps10.below hb11; have pr11 := pr10.below hb11; have pg211 := pg210.below hb11; have hint11 := hint10.below hb11; replace hqt : ∀ b, Rt b → b < w11.heap.size := fun b h => Nat.lt_of_lt_of_le (hqt b h) hb11.size; clear h10 hV10 ps10 pr10 y0 y1 pg210 qx hint10; obtain ⟨y0, y1⟩ := ps11.duo; have qx := pg211.open9))
      go_upto_region 6 with (first
       | (go_at_call 64; refine (HWD.out _ h11).mono ?_; rintro ex w12 ⟨rfl, hb12⟩; have h12 := h11.below hb12; have hV12 := below_on hV11 hb12; have ps12 := ps11.below hb12; have pr12 := pr11.below hb12; have pg212 := pg211.below hb12; have hint12 := hint11.below hb12; replace hqt : ∀ b, Rt b → b < w12.heap.size := fun b h => Nat.lt_of_lt_of_le (hqt b h) hb12.size; clear h11 hV11 ps11 pr11 y0 y1 pg211 qx hint11; obtain ⟨y0, y1⟩ := ps12.duo; have qx := pg212.open9))
      go_upto_region 7 with (go_at_call 186; refine ((HOP.out m2 (by omega)).ok h12 hal (by omega) HY.out).mono ?_; rintro ex w13 ⟨⟨A1, c1, A2, c2, A3, c3, a', rfl, rfl, ha', hin⟩, hb13⟩)
      obtain ⟨Ru, hRu⟩ : ∃ R : Nat → Prop, DR R0 w12.heap.size w13.heap.size = R := ⟨_, rfl⟩
      rw [hRu] at hin
      have hinu13 := hin
      clear hin
      have nug1 : ¬ Ru g1 := by
       rw [← hRu]
       rintro (h | ⟨h, _⟩)
       · have := hz0 _ h; omega
       · have := pr12.lt; omega
      have nug2 : ¬ Ru g2 := by
       rw [← hRu]
       rintro (h | ⟨h, _⟩)
       · have := hz0 _ h; omega
       · have := pg212.lt; omega
      have hqu : ∀ b, Ru b → b < w13.heap.size := by
       rw [← hRu]
       rintro b (h | ⟨_, h⟩)
       · have := hz0 _ h; have := hV12.size; have := hb13.size; omega
       · exact h
      have hwu : ∀ b, Ru b → R0 b ∨ w.heap.size ≤ b := by
       rw [← hRu]
       rintro b (h | ⟨h, _⟩)
       · exact .inl h
       · exact .inr (Nat.le_trans hV12.size h)
      clear hRu
      have hint13 := hint12.below hb13
      replace hqt : ∀ b, Rt b → b < w13.heap.size := fun b h => Nat.lt_of_lt_of_le (hqt b h) hb13.size
      have h13 := h12.below hb13
      have hV13 := below_on hV12 hb13
      have ps13 := ps12.below hb13
      have pr13 := pr12.below hb13
      have pg213 := pg212.below hb13
      clear h12 hV12 ps12 pr12 y0 y1 pg212
      obtain ⟨y0, y1⟩ := ps13.duo
      obtain ⟨w14, hw14, pg314, hb14⟩ := made_blk w13 #[.int .i64 u.k, .string u.nm, .slice A1 u.ns.length c1, .bool u.ng, .slice A2 u.mg.length c2, .slice A3 u.ks.length c3, .int .i64 (a' : Nat), .int .i64 0, .int .i64 0] 56
      obtain ⟨g3, hg3⟩ : ∃ x, x = w13.heap.size := ⟨_, rfl⟩
      rw [← hw14, ← hg3]
      rw [← hg3] at pg314
      have lg3 : w.heap.size ≤ g3 := by have := hV13.size; omega
      have neg3 : g1 ≠ g3 := by have := pr13.lt; omega
      have nzg3 : g0 ≠ g3 := by have := ps13.lt; omega
      have neg2g3 : g2 ≠ g3 := by have := pg213.lt; omega
      have nug3 : ¬ Ru g3 := fun h => by have := hqu _ h; omega
      have hinu14 := hinu13.below hb14
      replace hqu : ∀ b, Ru b → b < w14.heap.size := fun b h => Nat.lt_of_lt_of_le (hqu b h) hb14.size
      have ntg3 : ¬ Rt g3 := fun h => by have := hqt _ h; omega
      have hint14 := hint13.below hb14
      replace hqt : ∀ b, Rt b → b < w14.heap.size := fun b h => Nat.lt_of_lt_of_le (hqt b h) hb14.size
      clear hw14 hg3
      have h14 := h13.below hb14
      have hV14 := below_on hV13 hb14
      have ps14 := ps13.below hb14
      have pr14 := pr13.below hb14
      have pg214 := pg213.below hb14
      clear h13 hV13 ps13 pr13 y0 y1 pg213
      obtain ⟨y0, y1⟩ := ps14.duo
      clear qx
      have HA := below_alloc1 w14 (.cells #[.int .i64 t.k, .string t.nm, .slice B1 t.ns.length d1, .bool t.ng, .slice B2 t.mg.length d2, .slice B3 t.ks.length d3, .int .i64 u.k, .string u.nm, .slice A1 u.ns.length c1, .bool u.ng, .slice A2 u.mg.length c2, .slice A3 u.ks.length c3] 28)
      have qx := pg214.open9
      obtain ⟨⟨p0, p1, p2, p3, p4, p5, p6, p7, p8⟩, z0, z1, z2, z3, z4, z5, z6, z7, z8⟩ := pg314.open9
      have rv := (pg214.below HA).open9
      have sk := (pg314.below HA).open9
      go_wp2_with fail
      have hfr := fr9 (w14.alloc (.cells #[.int .i64 t.k, .string t.nm, .slice B1 t.ns.length d1, .bool t.ng, .slice B2 t.mg.length d2, .slice B3 t.ks.length d3, .int .i64 u.k, .string u.nm, .slice A1 u.ns.length c1, .bool u.ng, .slice A2 u.mg.length c2, .slice A3 u.ks.length c3] 28)) g2 (.int .i64 4) (.string ⟨#[]⟩) (.slice none 0 0) (.bool false) (.slice none 0 0) (.slice (some ⟨w14.heap.size, 0, none⟩) 2 2) (.int .i64 (a' : Nat)) (.int .i64 0) (.int .i64 0)
      have hsz := hfr.size
      have hsa : (w14.alloc (.cells #[.int .i64 t.k, .string t.nm, .slice B1 t.ns.length d1, .bool t.ng, .slice B2 t.mg.length d2, .slice B3 t.ks.length d3, .int .i64 u.k, .string u.nm, .slice A1 u.ns.length c1, .bool u.ng, .slice A2 u.mg.length c2, .slice A3 u.ks.length c3] 28)).heap.size = w14.heap.size + 1 := by simp
      have hl2 := pg214.lt
      have hvs := hV14.size
      have hgl2 := hgl.2 rfl
      simp only [List.length_drop] at hgl2
      have hrt := row_two (k := 4) hint14 hinu14 ntg2 nug2 hl2 hfr
      go_roundg (ws.length + 1 - a')
      case measure => omega
      case rel =>
       refine ⟨a', m2, _, none, 0, none, 0, _, 2, _, by omega, by omega, hXe, ha', ((h14.below HA).far hfr (fun h => by have := hz0 _ h; omega)), below_set9 (below_on hV14 HA) lg2 _ _ _ _ _ _ _ _ _, hfr.blk (ps14.below HA) (fun e => nzg2 e), hfr.blk (pr14.below HA) (fun e => neg2 e), (pg214.below HA).set9 _ _ _ _ _ _ _ _ _, hrt, ?_, ?_, ?_, ?_⟩
       · rintro (h | h | h)
         · exact ntg1 h
         · exact nug1 h
         · have := pr14.lt; omega
       · rintro (h | h | h)
         · exact ntg2 h
         · exact nug2 h
         · omega
       · rintro b (h | h | h)
         · have := hqt _ h; omega
         · have := hqu _ h; omega
         · omega
       · rintro b (h | h | h)
         · exact hwt _ h
         · exact hwu _ h
         · exact .inr (by omega)
    rw [Bool.not_eq_true] at c43
    simp only [P.step, c45, c43, Bool.false_eq_true, if_false] at hXe
    rw [c45] at m45
    rw [c43] at m43
    clear c45 c43
    have qx := pg210.open9
    obtain ⟨y0, y1⟩ := ps10.duo
    go_upto_region 10 with (first
     | (go_at_call 64; refine (HWD.out _ h11).mono ?_; rintro ex w12 ⟨rfl, hb12⟩; have h12 := h11.below hb12; have hV12 := below_on hV11 hb12; have ps12 := ps11.below hb12; have pr12 := pr11.below hb12; have pg212 := pg211.below hb12; have hint12 := hint11.below hb12; replace hqt : ∀ b, Rt b → b < w12.heap.size := fun b h => Nat.lt_of_lt_of_le (hqt b h) hb12.size; clear h11 hV11 ps11 pr11 y0 y1 pg211 qx hint11; obtain ⟨y0, y1⟩ := ps12.duo; have qx := pg212.open9)
     | (go_at_call 64; refine (HWD.out _ h10).mono ?_; rintro ex w11 ⟨rfl, hb11⟩; have h11 := h10.below hb11; have hV11 := below_on hV10 hb11; have ps11 := ps10.below hb11; have pr11 := pr10.below hb11; have pg211 := pg210.below hb11; have hint11 := hint10.below hb11; replace hqt : ∀ b, Rt b → b < w11.heap.size := fun b h => Nat.lt_of_lt_of_le (hqt b h) hb11.size; clear h10 hV10 ps10 pr10 y0 y1 pg210 qx hint10; obtain ⟨y0, y1⟩ := ps11.duo; have qx := pg211.open9))
    obtain ⟨⟨p0, p1, p2, p3, p4, p5, p6, p7, p8⟩, z0, z1, z2, z3, z4, z5, z6, z7, z8⟩ := pr12.open9
    go_wp2_with fail
    refine bodyPost_ret (results_rl rfl _ _ _ _ _ _ _ _ _ _ _ _ rfl (pr12.set9 _ _ _ _ _ _ _ _ _)) rfl ?_
    rw [hXe]
    exact dans_ok (below_set9 hV12 hl1 _ _ _ _ _ _ _ _ _) (hint12.far (fr9 _ _ _ _ _ _ _ _ _ _ _) ntg1) hwt (fun b h => Nat.lt_of_lt_of_le (hqt b h) (fr9 _ _ _ _ _ _ _ _ _ _ _).size) ha1'
end
end
end Go.Proofs.YthiadenmljbdaaaGreatDoor

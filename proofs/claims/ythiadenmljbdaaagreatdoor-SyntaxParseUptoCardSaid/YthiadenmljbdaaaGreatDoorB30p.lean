/-
  p: the parts DRowL DAnd DOr.
-/
import Derived.Test.YthiadenmljbdaaaGreatDoorB29p
import Derived.Deep.Cut
namespace Go.Proofs.YthiadenmljbdaaaGreatDoor
section
open Go.RowKit
theorem nine_set {w : World} {b : Nat} {t : TypeId} {a0 a1 a2 a3 a4 a5 a6 a7 a8 : Value} (h : Blk w b t #[a0, a1, a2, a3, a4, a5, a6, a7, a8]) (u0 u1 u2 u3 u4 u5 u6 u7 u8 : Value) :
    ∃ W, W = (((((((((((((((((w.setCell ⟨b, 0, none⟩ u0)).setCell ⟨b, 1, none⟩ u1)).setCell ⟨b, 2, none⟩ u2)).setCell ⟨b, 3, none⟩ u3)).setCell ⟨b, 4, none⟩ u4)).setCell ⟨b, 5, none⟩ u5)).setCell ⟨b, 6, none⟩ u6)).setCell ⟨b, 7, none⟩ u7)).setCell ⟨b, 8, none⟩ u8) ∧ Blk W b t #[u0, u1, u2, u3, u4, u5, u6, u7, u8] ∧ Fr w W (fun k => k = b) ∧ ∀ B w0, Below B w0 w → B ≤ b → Below B w0 W :=
  ⟨_, rfl, h.set9 u0 u1 u2 u3 u4 u5 u6 u7 u8, fr9 w b u0 u1 u2 u3 u4 u5 u6 u7 u8, fun _ _ hB hb => below_set9 hB hb u0 u1 u2 u3 u4 u5 u6 u7 u8⟩
theorem ins_of {w : World} {R : Nat → Prop} {g : Nat} : ∀ (ks : List T) (rs : List Kc) (o : Nat), rs.length = ks.length → (∀ i, i < rs.length → ∀ j, j < 6 → w.cell? ⟨g, o + (i * 6 + j), none⟩ = (kcl (rs.getD i kc0))[j]?) → (∀ i, i < ks.length → T.In w R (ks.getD i t0) (kv (rs.getD i kc0))) → T.Ins w R g o ks
 | [], _, _, _, _, _ => by rw [T.Ins]; trivial
 | t :: ks, [], _, h, _, _ => by simp at h
 | t :: ks, r :: rs, o, h, hc, hk => by
  rw [T.Ins]
  have c := fun j hj => hc 0 (by simp) j hj
  have h0 := hk 0 (by simp)
  refine ⟨⟨_, _, _, _, _, _, ⟨?_, ?_, ?_, ?_, ?_, ?_⟩, h0⟩, ins_of ks rs (o + 6) (by simpa using h) (fun i hi j hj => ?_) (fun i hi => ?_)⟩
  · exact c 0 (by decide)
  · exact c 1 (by decide)
  · exact c 2 (by decide)
  · exact c 3 (by decide)
  · exact c 4 (by decide)
  · exact c 5 (by decide)
  · have := hc (i + 1) (by simpa using hi) j hj
    rw [show o + 6 + (i * 6 + j) = o + ((i + 1) * 6 + j) by omega]
    simpa using this
  · simpa using hk (i + 1) (by simpa using hi)
theorem in_row {w : World} {k : Int} {base n cp : Nat} {B : Option Addr} {ks : List T} {rs : List Kc} {Rk R' : Nat → Prop} (ho : OutK w base (.slice B n cp) rs) (hl : rs.length = ks.length) (h0 : 0 < ks.length) (hk : ∀ i, i < ks.length → T.In w Rk (ks.getD i t0) (kv (rs.getD i kc0))) (hR : ∀ b, Rk b → R' b) (hg : ∀ g, (Value.slice B n cp).ownBlock = some g → R' g) :
    T.In w R' (P.nd k ks) (.agg #[.int .i64 k, .string ⟨#[]⟩, .slice none 0 0, .bool false, .slice none 0 0, .slice B n cp]) := by
  obtain ⟨g, cap, e, hc⟩ := ho.cells (by omega)
  have hcap : rs.length ≤ cap := by
   rcases ho with ⟨_, hn⟩ | ⟨g0, cap', cur, e', _, _, h1, _⟩
   · subst hn; simp at hl; omega
   · rw [e] at e'; injection e' with _ _ e3; omega
  injection e with e1 e2 e3
  subst e1 e2 e3
  unfold P.nd
  rw [T.In]
  refine ⟨none, 0, none, 0, some ⟨g, 0, none⟩, cp, by rw [hl]; rfl, ⟨Nat.le_refl _, fun h => absurd h (by simp)⟩, ⟨Sl.nil _ _ _, fun h => absurd h (by simp)⟩, by omega, fun _ => ⟨g, 0, rfl, hg g (by simp [Value.ownBlock]), ins_of ks rs 0 hl (fun i hi j hj => by rw [Nat.zero_add]; exact hc i hi j hj) (fun i hi => (hk i hi).mono hR)⟩⟩
theorem kid_last {w : World} {Rk Ru R' : Nat → Prop} {ks : List T} {rs : List Kc} {u : T} {r : Kc} (hl : rs.length = ks.length) (hk : ∀ i, i < ks.length → T.In w Rk (ks.getD i t0) (kv (rs.getD i kc0))) (hu : T.In w Ru u (kv r)) (h1 : ∀ b, Rk b → R' b) (h2 : ∀ b, Ru b → R' b) :
    ∀ i, i < (ks ++ [u]).length → T.In w R' ((ks ++ [u]).getD i t0) (kv ((rs ++ [r]).getD i kc0)) := by
  intro i hi
  rcases Nat.lt_or_ge i ks.length with h | h
  · simp only [List.getD_eq_getElem?_getD]
    rw [List.getElem?_append_left h, List.getElem?_append_left (by omega)]
    have := (hk i h).mono h1
    simpa only [List.getD_eq_getElem?_getD] using this
  · have e : i = ks.length := by simp at hi; omega
    subst e
    simp only [List.getD_eq_getElem?_getD]
    rw [List.getElem?_append_right (Nat.le_refl _), List.getElem?_append_right (by omega), hl]
    simpa using hu.mono h2
theorem OutK.own_lt {w : World} {base : Nat} {v : Value} {rs : List Kc} (h : OutK w base v rs) : ∀ g, v.ownBlock = some g → g < w.heap.size := by
 rcases h with ⟨rfl, _⟩ | ⟨g0, cap, cur, rfl, _, hc, _⟩
 · intro g h; cases h
 · intro g h
   have e : g0 = g := by simpa [Value.ownBlock] using h
   exact e ▸ (Array.getElem?_eq_some_iff.1 hc).1
theorem T.In.grown {w w' : World} {R : Nat → Prop} {t : T} {v : Value} {row : Option Nat} (h : T.In w R t v) (hg : w.grownBy w' row) (hn : ∀ g, row = some g → ¬ R g) (hR : ∀ b, R b → b < w.heap.size) : T.In w' R t v :=
 h.fr (fun b hb => hg.block b (hR b hb) (fun e => hn b e.symm hb))
theorem below_grown {w0 w w' : World} {row : Option Nat} (h : Below w0.heap.size w0 w) (hg : w.grownBy w' row) (hn : ∀ g, row = some g → w0.heap.size ≤ g) : Below w0.heap.size w0 w' :=
 h.trans ⟨hg.os, hg.tape, hg.output, hg.size, fun k hk => hg.block k (Nat.lt_of_lt_of_le hk h.size) (fun e => by have := hn k e.symm; omega)⟩
theorem Dx.grown {w w' : World} {R0 : Nat → Prop} {A : Option Addr} {ws : List Wd} {row : Option Nat} (h : Dx w R0 A ws) (hg : w.grownBy w' row) (hn : ∀ g, row = some g → ¬ R0 g) : Dx w' R0 A ws :=
 ⟨h.1.keep (fun b _ hb ho => (hg.block b (h.2.2 b hb) (fun e => hn b e.symm hb)).trans ho), h.2.1, fun k hk => Nat.lt_of_lt_of_le (h.2.2 k hk) hg.size⟩
end
section
open Go.RowKit
attribute [local go_sem] Oper.semAt_some
section
variable {R0 : Nat → Prop} {A : Option Addr} {c e : Nat} {ws : List Wd}
set_option maxRecDepth 100000 in
set_option maxHeartbeats 6400000 in
theorem and_d (f : Nat) (hop : ∀ f', f' ≤ f → DRule R0 A c ws e f' .notted 157) : DRule R0 A c ws e (f + 1) .anded 139 := by
 intro w a z hz h ha hX
 subst hz
 rw [P.G_succ] at hX ⊢
 obtain ⟨X, hXe⟩ : ∃ X, P.step e (P.G e f) .anded (ws.drop a) = X := ⟨_, rfl⟩
 rw [hXe] at hX ⊢
 unfold xv
 obtain ⟨w0, g0, g1, hW, hg0, hg1, ps0, pr0, hV0⟩ := enter_d w A ws.length c e
 have h0 := h.below hV0
 have hn := h.2.1
 have hz0 := h.2.2
 have ha1 : a ≤ 1048577 := by omega
 have hl1 : w.heap.size ≤ g1 := by omega
 have hl0 : w.heap.size ≤ g0 := by omega
 have wa1 : IntKind.i64.wrap ((a : Int) + 1) = (a : Int) + 1 := wrap_nat (by omega) (by omega)
 have HW := Lib.hid hW
 have HG0 := Lib.hid hg0
 have HG1 := Lib.hid hg1
 clear h hW hg0 hg1
 have HOP := Lib.hid hop
 clear hop
 obtain ⟨i0, hinfo, iz0, iz1, iz2⟩ := tree_info
 have hXe : (P.G e f .notted (ws.drop a)).bind (fun t r => if P.isW ⟨#[97, 110, 100]⟩ r then P.G e f (.andL [t]) r else .ok t r) = X := hXe
 cases hY : P.G e f .notted (ws.drop a) with
 | out => rw [hY] at hXe; exact absurd hXe.symm hX
 | bad cd p =>
  rw [hY] at hXe
  have hXe : P.Rd.bad cd p = X := hXe
  subst hXe
  have HY := Lib.hid hY
  clear hX hY
  go_enter Tryz.func139, Tryz.ntmps139
  go_upto_region 1 with (fail)
  rw [← HW.out, ← HG1.out, ← HG0.out]
  obtain ⟨y0, y1⟩ := ps0.duo
  go_upto_region 2 with (go_at_call 157; refine ((HOP.out f (Nat.le_refl _)).bad h0 ha (by omega) HY.out).mono ?_; rintro ex w1 ⟨hcd, ⟨z3, rfl⟩, hb1⟩)
  have cd0 : ((cd : Int) == 0) = false := by simp; omega
  have cd1 : ((cd : Int) != 0) = true := by simp; omega
  have h1 := h0.below hb1
  have hV1 := below_on hV0 hb1
  have ps1 := ps0.below hb1
  have pr1 := pr0.below hb1
  clear h0 hV0 ps0 pr0 y0 y1
  obtain ⟨y0, y1⟩ := ps1.duo
  obtain ⟨w2, hw2, pg22, hb2⟩ := made_blk w1 #[.int .i64 0, .string ⟨#[]⟩, .slice none 0 0, .bool false, .slice none 0 0, .slice none 0 0, .int .i64 z3, .int .i64 (cd : Nat), .int .i64 (p : Nat)] 56
  obtain ⟨g2, hg2⟩ : ∃ x, x = w1.heap.size := ⟨_, rfl⟩
  rw [← hw2, ← hg2]
  rw [← hg2] at pg22
  have lg2 : w.heap.size ≤ g2 := by have := hV1.size; omega
  have neg2 : g1 ≠ g2 := by have := pr1.lt; omega
  have nzg2 : g0 ≠ g2 := by have := ps1.lt; omega
  clear hw2 hg2
  have h2 := h1.below hb2
  have hV2 := below_on hV1 hb2
  have ps2 := ps1.below hb2
  have pr2 := pr1.below hb2
  clear h1 hV1 ps1 pr1 y0 y1
  obtain ⟨y0, y1⟩ := ps2.duo
  have qx := pg22.open9
  have hb3 := below_alloc1 w2 (.cells #[.int .i64 0, .string ⟨#[]⟩, .slice none 0 0, .bool false, .slice none 0 0, .slice none 0 0] 28)
  go_upto_region 3 with (fail)
  clear qx
  obtain ⟨w3, hw3⟩ : ∃ x, w2.alloc (.cells #[.int .i64 0, .string ⟨#[]⟩, .slice none 0 0, .bool false, .slice none 0 0, .slice none 0 0] 28) = x := ⟨_, rfl⟩
  rw [hw3] at hb3 ⊢
  clear hw3
  have h3 := h2.below hb3
  have hV3 := below_on hV2 hb3
  have ps3 := ps2.below hb3
  have pr3 := pr2.below hb3
  have pg23 := pg22.below hb3
  clear h2 hV2 ps2 pr2 y0 y1 pg22
  obtain ⟨y0, y1⟩ := ps3.duo
  clear y0 y1
  go_loopg [6] 1 (fun gk _ wr => wr = w3)
  case atStart => rfl
  case round =>
   obtain rfl := hrel
   have qx := pg23.open9
   obtain ⟨⟨p0, p1, p2, p3, p4, p5, p6, p7, p8⟩, z0, z1, z2, z3, z4, z5, z6, z7, z8⟩ := pr3.open9
   go_wp2_with fail
   refine bodyPost_ret (results_rl rfl _ _ _ _ _ _ _ _ _ _ _ _ rfl (pr3.set9 _ _ _ _ _ _ _ _ _)) rfl ?_
   exact dans_bad (below_set9 hV3 hl1 _ _ _ _ _ _ _ _ _) hcd
 | ok t r =>
  rw [hY] at hXe
  have HY := Lib.hid hY
  clear hY
  go_enter Tryz.func139, Tryz.ntmps139
  go_upto_region 1 with (fail)
  rw [← HW.out, ← HG1.out, ← HG0.out]
  obtain ⟨y0, y1⟩ := ps0.duo
  go_upto_region 2 with (go_at_call 157; refine ((HOP.out f (Nat.le_refl _)).ok h0 ha (by omega) HY.out).mono ?_; rintro ex w1 ⟨⟨B1, d1, B2, d2, B3, d3, a1, rfl, rfl, ha1, hin⟩, hb1⟩)
  obtain ⟨Rt, hRt⟩ : ∃ R : Nat → Prop, DR R0 w0.heap.size w1.heap.size = R := ⟨_, rfl⟩
  rw [hRt] at hin
  have hint1 := hin
  clear hin
  have ntg1 : ¬ Rt g1 := by
   rw [← hRt]
   rintro (h | ⟨h, _⟩)
   · have := hz0 _ h; omega
   · have := pr0.lt; omega
  have hqt : ∀ b, Rt b → b < w1.heap.size := by
   rw [← hRt]
   rintro b (h | ⟨_, h⟩)
   · have := hz0 _ h; have := hV0.size; have := hb1.size; omega
   · exact h
  have hwt : ∀ b, Rt b → R0 b ∨ w.heap.size ≤ b := by
   rw [← hRt]
   rintro b (h | ⟨h, _⟩)
   · exact .inl h
   · exact .inr (Nat.le_trans hV0.size h)
  clear hRt
  have h1 := h0.below hb1
  have hV1 := below_on hV0 hb1
  have ps1 := ps0.below hb1
  have pr1 := pr0.below hb1
  clear h0 hV0 ps0 pr0 y0 y1
  obtain ⟨y0, y1⟩ := ps1.duo
  obtain ⟨w2, hw2, pg22, hb2⟩ := made_blk w1 #[.int .i64 t.k, .string t.nm, .slice B1 t.ns.length d1, .bool t.ng, .slice B2 t.mg.length d2, .slice B3 t.ks.length d3, .int .i64 (a1 : Nat), .int .i64 0, .int .i64 0] 56
  obtain ⟨g2, hg2⟩ : ∃ x, x = w1.heap.size := ⟨_, rfl⟩
  rw [← hw2, ← hg2]
  rw [← hg2] at pg22
  have lg2 : w.heap.size ≤ g2 := by have := hV1.size; omega
  have neg2 : g1 ≠ g2 := by have := pr1.lt; omega
  have nzg2 : g0 ≠ g2 := by have := ps1.lt; omega
  have ntg2 : ¬ Rt g2 := fun h => by have := hqt _ h; omega
  have hint2 := hint1.below hb2
  replace hqt : ∀ b, Rt b → b < w2.heap.size := fun b h => Nat.lt_of_lt_of_le (hqt b h) hb2.size
  clear hw2 hg2
  have h2 := h1.below hb2
  have hV2 := below_on hV1 hb2
  have ps2 := ps1.below hb2
  have pr2 := pr1.below hb2
  clear h1 hV1 ps1 pr1 y0 y1
  obtain ⟨y0, y1⟩ := ps2.duo
  have hXe : (if P.isW ⟨#[97, 110, 100]⟩ (ws.drop a1) then P.G e f (.andL [t]) (ws.drop a1) else .ok t (ws.drop a1)) = X := hXe
  have qx := pg22.open9
  have hb3 := below_alloc1 w2 (.cells #[.int .i64 t.k, .string t.nm, .slice B1 t.ns.length d1, .bool t.ng, .slice B2 t.mg.length d2, .slice B3 t.ks.length d3] 28)
  have pk3 := Blk.new w2 28 #[.int .i64 t.k, .string t.nm, .slice B1 t.ns.length d1, .bool t.ng, .slice B2 t.mg.length d2, .slice B3 t.ks.length d3]
  go_upto_region 3 with (fail)
  clear qx
  obtain ⟨w3, hw3⟩ : ∃ x, w2.alloc (.cells #[.int .i64 t.k, .string t.nm, .slice B1 t.ns.length d1, .bool t.ng, .slice B2 t.mg.length d2, .slice B3 t.ks.length d3] 28) = x := ⟨_, rfl⟩
  obtain ⟨gk3, hgk3⟩ : ∃ x, w2.heap.size = x := ⟨_, rfl⟩
  rw [hw3] at hb3 pk3 ⊢
  rw [hgk3] at pk3 ⊢
  clear hw3
  have hint3 := hint2.below hb3
  have hlt2 := pg22.lt
  have hlt1 := pr2.lt
  have hlt0 := ps2.lt
  have ntk : ¬ Rt gk3 := fun h => by have := hqt _ h; omega
  replace hqt : ∀ b, Rt b → b < w3.heap.size := fun b h => Nat.lt_of_lt_of_le (hqt b h) hb3.size
  have h3 := h2.below hb3
  have hV3 := below_on hV2 hb3
  have ps3 := ps2.below hb3
  have pr3 := pr2.below hb3
  have pg23 := pg22.below hb3
  clear h2 hV2 ps2 pr2 y0 y1 pg22
  obtain ⟨y0, y1⟩ := ps3.duo
  have hok3 : OutK w3 w2.heap.size (.slice (some ⟨gk3, 0, none⟩) 1 1) [(tc t.k t.nm B1 t.ns.length d1 t.ng B2 t.mg.length d2 B3 t.ks.length d3)] := .inr ⟨gk3, 1, _, rfl, by omega, pk3, Nat.le_refl _, by decide, by simp [kcs, kcl, kzs, Builtin.zeroCells]⟩
  by_cases c1 : P.isW ⟨#[97, 110, 100]⟩ (ws.drop a1) = true
  rotate_left
  ·
   rw [Bool.not_eq_true] at c1
   rw [c1, if_neg (by decide)] at hXe
   subst hXe
   obtain ⟨X2, hX2⟩ : ∃ x, P.tx (ws.drop a1) = x := ⟨_, rfl⟩
   have HWD := Lib.hid (fun (w' : World) (h : Dx w' R0 A ws) => by have h := word_d (c := c) (e := e) h a1 (by omega) _ rfl; rw [hX2] at h; exact h)
   have m1 : (X2.toList == [97, 110, 100]) = P.isW ⟨#[97, 110, 100]⟩ (ws.drop a1) := by rw [← hX2]; exact tx_beq ⟨#[97, 110, 100]⟩ (by decide) _
   clear hX2
   rw [c1] at m1
   clear c1 hX hok3 pk3 y0 y1
   go_wp2_with fail
   go_loopg [6] 1 (fun gk v6 wr => wr = w3 ∧ v6 = .slice (some ⟨gk3, 0, none⟩) 1 1)
   case atStart => exact ⟨rfl, rfl⟩
   case round =>
    obtain ⟨hwr, rfl⟩ := hrel
    subst hwr
    have qx := pg23.open9
    obtain ⟨y0, y1⟩ := ps3.duo
    go_upto_region 6 with (first
     | (go_at_call 64; refine (HWD.out _ h3).mono ?_; rintro ex w4 ⟨rfl, hb4⟩; have h4 := h3.below hb4; have hV4 := below_on hV3 hb4; have ps4 := ps3.below hb4; have pr4 := pr3.below hb4; have pg24 := pg23.below hb4; have hint4 := hint3.below hb4; replace hqt : ∀ b, Rt b → b < w4.heap.size := fun b h => Nat.lt_of_lt_of_le (hqt b h) hb4.size; clear h3 hV3 ps3 pr3 y0 y1 pg23 qx hint3; obtain ⟨y0, y1⟩ := ps4.duo; have qx := pg24.open9))
    obtain ⟨⟨p0, p1, p2, p3, p4, p5, p6, p7, p8⟩, z0, z1, z2, z3, z4, z5, z6, z7, z8⟩ := pr4.open9
    go_wp2_with fail
    refine bodyPost_ret (results_rl rfl _ _ _ _ _ _ _ _ _ _ _ _ rfl (pr4.set9 _ _ _ _ _ _ _ _ _)) rfl ?_
    exact dans_ok (below_set9 hV4 hl1 _ _ _ _ _ _ _ _ _) (hint4.far (fr9 _ _ _ _ _ _ _ _ _ _ _) ntg1) hwt (fun b h => Nat.lt_of_lt_of_le (hqt b h) (fr9 _ _ _ _ _ _ _ _ _ _ _).size) ha1
  ·
   rw [if_pos c1] at hXe
   clear y0 y1
   have hgl := (P.G_len _ _ _ _ _ _ HY.out).2 rfl
   simp only [List.length_drop] at hgl
   go_wp2_with fail
   go_loopg [6] (ws.length + 1 - a1) (fun gk v6 wr => ((∃ (a1 m1 : Nat) (ks : List T) (rs : List Kc) (t : T) (B1 : Option Addr) (d1 : Nat) (B2 : Option Addr) (d2 : Nat) (B3 : Option Addr) (d3 : Nat) (Rk : Nat → Prop), gk + a1 = ws.length + 1 ∧ m1 ≤ f ∧ X = P.G e m1 (.andL ks) (ws.drop a1) ∧ (ks.length = 1 → P.isW ⟨#[97, 110, 100]⟩ (ws.drop a1) = true) ∧ a1 ≤ ws.length ∧ OutK wr w2.heap.size v6 rs ∧ rs.length = ks.length ∧ 0 < ks.length ∧ ks.length ≤ a1 ∧ (∀ i, i < ks.length → T.In wr Rk (ks.getD i t0) (kv (rs.getD i kc0))) ∧ Dx wr R0 A ws ∧ Blk wr g0 54 #[.slice A ws.length c, .int .i64 (e : Nat)] ∧ Blk wr g2 56 #[.int .i64 t.k, .string t.nm, .slice B1 t.ns.length d1, .bool t.ng, .slice B2 t.mg.length d2, .slice B3 t.ks.length d3, .int .i64 (a1 : Nat), .int .i64 0, .int .i64 0] ∧ ¬ Rk g1 ∧ ¬ Rk g2 ∧ (∀ g, v6.ownBlock = some g → ¬ Rk g) ∧ (∀ b, Rk b → b < wr.heap.size) ∧ (∀ b, Rk b → R0 b ∨ w.heap.size ≤ b)) ∨ (∃ (cd p : Nat) (z3 : Int), X = .bad cd p ∧ cd ≠ 0 ∧ Blk wr g2 56 #[.int .i64 0, .string ⟨#[]⟩, .slice none 0 0, .bool false, .slice none 0 0, .slice none 0 0, .int .i64 z3, .int .i64 (cd : Nat), .int .i64 (p : Nat)])) ∧ w2.heap.size ≤ wr.heap.size ∧ Below w.heap.size w wr ∧ Blk wr g1 56 #[.int .i64 0, .string ⟨#[]⟩, .slice none 0 0, .bool false, .slice none 0 0, .slice none 0 0, .int .i64 0, .int .i64 0, .int .i64 0])
   case atStart => exact ⟨.inl ⟨a1, f, [t], _, t, B1, d1, B2, d2, B3, d3, Rt, by omega, Nat.le_refl _, hXe.symm, fun _ => c1, ha1, hok3, rfl, by simp, by simp; omega, fun i hi => (show i = 0 by simpa using hi) ▸ hint3, h3, ps3, pg23, ntg1, ntg2, fun g hg => (show gk3 = g by simpa [Value.ownBlock] using hg) ▸ ntk, hqt, hwt⟩, hb3.size, hV3, pr3⟩
   case round =>
    clear h3 hV3 ps3 pr3 pg23 hint3 ntg1 ntg2 ntk hqt hwt hXe ha1 hok3 pk3 c1 hb3
    obtain ⟨hor, hs2w, hV10, pr10⟩ := hrel
    rcases hor with ⟨a1, m1, ks, rs, t, B1, d1, B2, d2, B3, d3, Rk, hgk, hm1, hXe, hk1, ha1, hok, hrl, hk0, hka, hks, h10, ps10, pg210, nk1, nk2, nko, hqk, hwk⟩ | ⟨cd, p, z3, hXe, hcd, pg210⟩
    rotate_left
    · have cd0 : ((cd : Int) == 0) = false := by simp; omega
      have qx := pg210.open9
      obtain ⟨⟨p0, p1, p2, p3, p4, p5, p6, p7, p8⟩, z0, z1, z2, z3, z4, z5, z6, z7, z8⟩ := pr10.open9
      go_wp2_with fail
      refine bodyPost_ret (results_rl rfl _ _ _ _ _ _ _ _ _ _ _ _ rfl (pr10.set9 _ _ _ _ _ _ _ _ _)) rfl ?_
      rw [hXe]
      exact dans_bad (below_set9 hV10 hl1 _ _ _ _ _ _ _ _ _) hcd
    obtain ⟨BB, cp, rfl⟩ := hok.slice
    obtain ⟨X2, hX2⟩ : ∃ x, P.tx (ws.drop a1) = x := ⟨_, rfl⟩
    have HWD := Lib.hid (fun (w' : World) (h : Dx w' R0 A ws) => by have h := word_d (c := c) (e := e) h a1 (by omega) _ rfl; rw [hX2] at h; exact h)
    have mw : (X2.toList == [97, 110, 100]) = P.isW ⟨#[97, 110, 100]⟩ (ws.drop a1) := by rw [← hX2]; exact tx_beq ⟨#[97, 110, 100]⟩ (by decide) _
    clear hX2
    have wa3 : IntKind.i64.wrap ((a1 : Int) + 1) = (a1 : Int) + 1 := wrap_nat (by omega) (by omega)
    have HOK := Lib.hid hok
    have HKS := Lib.hid hks
    have HNO := Lib.hid nko
    have HK1 := Lib.hid hk1
    clear hok hks nko hk1
    cases m1 with
    | zero => exact absurd hXe hX
    | succ m2 =>
     rw [P.G_succ] at hXe
     by_cases c2 : P.isW ⟨#[97, 110, 100]⟩ (ws.drop a1) = true
     ·
      simp only [P.step, c2, if_true, tail_drop] at hXe
      have hal := isW_lt c2
      rw [c2] at mw
      clear c2
      have hlen2 : rs.length < 1048576 := by omega
      have HRL := Lib.hid hrl
      clear hrl
      cases hY : P.G e m2 .notted (ws.drop (a1 + 1)) with
      | out => rw [hY] at hXe; exact absurd hXe hX
      | bad cd p =>
       rw [hY] at hXe
       have hXe : X = .bad cd p := hXe
       have HY := Lib.hid hY
       clear hY
       have qx := pg210.open9
       obtain ⟨y0, y1⟩ := ps10.duo
       go_upto_region 4 with (first
        | (go_at_call 64; refine (HWD.out _ h10).mono ?_; rintro ex w11 ⟨rfl, hb11⟩; have h11 := h10.below hb11; have hV11 := below_on hV10 hb11; have ps11 := ps10.below hb11; have pr11 := pr10.below hb11; have pg211 := pg210.below hb11; clear h10 hV10 ps10 pr10 y0 y1 pg210 qx; obtain ⟨y0, y1⟩ := ps11.duo; have qx := pg211.open9))
       go_upto_region 5 with (go_at_call 157; refine ((HOP.out m2 (by omega)).bad h11 hal (by omega) HY.out).mono ?_; rintro ex w12 ⟨hcd, ⟨z3, rfl⟩, hb12⟩; obtain ⟨⟨p0, p1, p2, p3, p4, p5, p6, p7, p8⟩, z0, z1, z2, z4, z5, z6, z7, z8, z9⟩ := (pg211.below hb12).open9)
       clear qx p0 p1 p2 p3 p4 p5 p6 p7 p8 z0 z1 z2 z4 z5 z6 z7 z8 z9
       have cd0 : ((cd : Int) == 0) = false := by simp; omega
       have cd1 : ((cd : Int) != 0) = true := by simp; omega
       have h12 := h11.below hb12
       have hV12 := below_on hV11 hb12
       have ps12 := ps11.below hb12
       have pr12 := pr11.below hb12
       have pg212 := pg211.below hb12
       clear h11 hV11 ps11 pr11 y0 y1 pg211
       obtain ⟨y0, y1⟩ := ps12.duo
       obtain ⟨w13, hw13, pg213, hf13, hB13⟩ := nine_set pg212 (.int .i64 0) (.string ⟨#[]⟩) (.slice none 0 0) (.bool false) (.slice none 0 0) (.slice none 0 0) (.int .i64 z3) (.int .i64 (cd : Nat)) (.int .i64 (p : Nat))
       rw [← hw13]
       have hV13 := hB13 _ _ hV12 lg2
       have pr13 := hf13.blk pr12 (fun e => neg2 e)
       have hsz2 : w2.heap.size ≤ wr.heap.size := hs2w
       have hsz2' : w2.heap.size ≤ w13.heap.size := Nat.le_trans hs2w (Nat.le_trans hb11.size (Nat.le_trans hb12.size hf13.size))
       clear hw13 hB13
       clear hV12 pr12 pg212 ps12 h12
       have qx := pg213.open9
       have hal7 := below_alloc1 w13 (row1 (tc 0 ⟨#[]⟩ none 0 0 false none 0 0 none 0 0))
       have HOK7 := Lib.hid (HOK.out.far (Nat.le_trans (show w2.heap.size ≤ w2.heap.size from Nat.le_refl _) hsz2) (fun b h1 h2 => (((hal7.block b (by have := hb11.size; have := hb12.size; have := hf13.size; omega)).trans (hf13.block b (by have := hb11.size; have := hb12.size; omega) (by show ¬ b = g2; omega))).trans (hb12.block b (by have := hb11.size; omega))).trans (hb11.block b h2)))
       go_wp2_with (at_builtin; refine wpList_append_kid _ rfl (.tmp 29) (.tmp 32) 26 rfl w2.heap.size i0 Tryz.underlying26 hinfo iz0 iz1 iz2 _ rs rfl (HOK7.out) _ 1 (tc 0 ⟨#[]⟩ none 0 0 false none 0 0 none 0 0) rfl (kid_cells (Blk.new _ _ _)) (tc_one _ _ _ _ _ _ _ _ _ _ _ _) hlen2 (Nat.le_trans hsz2' hal7.size) ?_; intro g' cap w20 ho20 hg20 hor)
       have hob : ∀ q, (Value.slice BB rs.length cp).ownBlock = some q → w2.heap.size ≤ q := fun q h => HOK.out.base_le q h
       go_roundg 0
       case measure => omega
       case rel => exact ⟨.inr ⟨cd, p, z3, hXe, hcd, gb_blk (pg213.below hal7) hg20 (fun e => by have := hob _ e.symm; omega)⟩, Nat.le_trans hsz2' (Nat.le_trans hal7.size hg20.size), below_grown (below_on hV13 hal7) hg20 (fun g h => by have := hob g h; omega), gb_blk (pr13.below hal7) hg20 (fun e => by have := hob _ e.symm; omega)⟩
      | ok u r =>
       rw [hY] at hXe
       have hXe : X = P.G e m2 (.andL (ks ++ [u])) r := hXe
       have hgl := P.G_len _ _ _ _ _ _ hY
       have HY := Lib.hid hY
       clear hY
       have qx := pg210.open9
       obtain ⟨y0, y1⟩ := ps10.duo
       go_upto_region 4 with (first
        | (go_at_call 64; refine (HWD.out _ h10).mono ?_; rintro ex w11 ⟨rfl, hb11⟩; have h11 := h10.below hb11; have hV11 := below_on hV10 hb11; have ps11 := ps10.below hb11; have pr11 := pr10.below hb11; have pg211 := pg210.below hb11; clear h10 hV10 ps10 pr10 y0 y1 pg210 qx; obtain ⟨y0, y1⟩ := ps11.duo; have qx := pg211.open9))
       go_upto_region 5 with (go_at_call 157; refine ((HOP.out m2 (by omega)).ok h11 hal (by omega) HY.out).mono ?_; rintro ex w12 ⟨⟨A1, c1, A2, c2, A3, c3, a', rfl, rfl, ha', hin⟩, hb12⟩; obtain ⟨⟨p0, p1, p2, p3, p4, p5, p6, p7, p8⟩, z0, z1, z2, z4, z5, z6, z7, z8, z9⟩ := (pg211.below hb12).open9)
       clear qx p0 p1 p2 p3 p4 p5 p6 p7 p8 z0 z1 z2 z4 z5 z6 z7 z8 z9
       obtain ⟨Ru, hRu⟩ : ∃ R : Nat → Prop, DR R0 w11.heap.size w12.heap.size = R := ⟨_, rfl⟩
       rw [hRu] at hin
       have hinu12 := hin
       clear hin
       have nug1 : ¬ Ru g1 := by
        rw [← hRu]
        rintro (h | ⟨h, _⟩)
        · have := hz0 _ h; omega
        · have := pr11.lt; omega
       have nug2 : ¬ Ru g2 := by
        rw [← hRu]
        rintro (h | ⟨h, _⟩)
        · have := hz0 _ h; omega
        · have := pg211.lt; omega
       have hqu : ∀ b, Ru b → b < w12.heap.size := by
        rw [← hRu]
        rintro b (h | ⟨_, h⟩)
        · have := hz0 _ h; have := hV11.size; have := hb12.size; omega
        · exact h
       have hwu : ∀ b, Ru b → R0 b ∨ w.heap.size ≤ b := by
        rw [← hRu]
        rintro b (h | ⟨h, _⟩)
        · exact .inl h
        · exact .inr (Nat.le_trans hV11.size h)
       have nuo : ∀ g, (Value.slice BB rs.length cp).ownBlock = some g → ¬ Ru g := fun g hg => by
        have hbl := HOK.out.base_le g hg
        have hlt := HOK.out.own_lt g hg
        rw [← hRu]
        rintro (h | ⟨h, _⟩)
        · have := hz0 _ h; omega
        · have := hb11.size; omega
       clear hRu
       have h12 := h11.below hb12
       have hV12 := below_on hV11 hb12
       have ps12 := ps11.below hb12
       have pr12 := pr11.below hb12
       have pg212 := pg211.below hb12
       clear h11 hV11 ps11 pr11 y0 y1 pg211
       obtain ⟨y0, y1⟩ := ps12.duo
       obtain ⟨w13, hw13, pg213, hf13, hB13⟩ := nine_set pg212 (.int .i64 u.k) (.string u.nm) (.slice A1 u.ns.length c1) (.bool u.ng) (.slice A2 u.mg.length c2) (.slice A3 u.ks.length c3) (.int .i64 (a' : Nat)) (.int .i64 0) (.int .i64 0)
       rw [← hw13]
       have hV13 := hB13 _ _ hV12 lg2
       have pr13 := hf13.blk pr12 (fun e => neg2 e)
       have hsz2 : w2.heap.size ≤ wr.heap.size := hs2w
       have hsz2' : w2.heap.size ≤ w13.heap.size := Nat.le_trans hs2w (Nat.le_trans hb11.size (Nat.le_trans hb12.size hf13.size))
       clear hw13 hB13
       have h13 := h12.far hf13 (fun h => by have := hz0 _ h; omega)
       have ps13 := hf13.blk ps12 (fun e => nzg2 e)
       have hinu13 := hinu12.far hf13 nug2
       have HK13 := Lib.hid (fun i (hi : i < ks.length) => (((HKS.out i hi).below hb11).below hb12).far hf13 nk2)
       have hq13 : ∀ b, Ru b → b < w13.heap.size := fun b h => Nat.lt_of_lt_of_le (hqu b h) hf13.size
       have hqk13 : ∀ b, Rk b → b < w13.heap.size := fun b h => Nat.lt_of_lt_of_le (hqk b h) (Nat.le_trans hb11.size (Nat.le_trans hb12.size hf13.size))
       clear hV12 pr12 pg212 ps12 h12 hinu12
       have qx := pg213.open9
       have hal7 := below_alloc1 w13 (row1 (tc u.k u.nm A1 u.ns.length c1 u.ng A2 u.mg.length c2 A3 u.ks.length c3))
       have HOK7 := Lib.hid (HOK.out.far (Nat.le_trans (show w2.heap.size ≤ w2.heap.size from Nat.le_refl _) hsz2) (fun b h1 h2 => (((hal7.block b (by have := hb11.size; have := hb12.size; have := hf13.size; omega)).trans (hf13.block b (by have := hb11.size; have := hb12.size; omega) (by show ¬ b = g2; omega))).trans (hb12.block b (by have := hb11.size; omega))).trans (hb11.block b h2)))
       go_wp2_with (at_builtin; refine wpList_append_kid _ rfl (.tmp 29) (.tmp 32) 26 rfl w2.heap.size i0 Tryz.underlying26 hinfo iz0 iz1 iz2 _ rs rfl (HOK7.out) _ 1 (tc u.k u.nm A1 u.ns.length c1 u.ng A2 u.mg.length c2 A3 u.ks.length c3) rfl (kid_cells (Blk.new _ _ _)) (tc_one _ _ _ _ _ _ _ _ _ _ _ _) hlen2 (Nat.le_trans hsz2' hal7.size) ?_; intro g' cap w20 ho20 hg20 hor)
       have hob : ∀ q, (Value.slice BB rs.length cp).ownBlock = some q → w2.heap.size ≤ q := fun q h => HOK.out.base_le q h
       have hgl2 := hgl.2 rfl
       simp only [List.length_drop] at hgl2
       have hs20 : w13.heap.size ≤ w20.heap.size := Nat.le_trans hal7.size hg20.size
       replace hor := hor.imp id (Nat.le_trans hal7.size)
       have hkl := kid_last (R' := fun b => Rk b ∨ Ru b) HRL.out (fun i hi => ((HK13.out i hi).below hal7).grown hg20 (fun g h => HNO.out g h) (fun b h => Nat.lt_of_lt_of_le (hqk13 b h) hal7.size)) (r := (tc u.k u.nm A1 u.ns.length c1 u.ng A2 u.mg.length c2 A3 u.ks.length c3)) ((hinu13.below hal7).grown hg20 nuo (fun b h => Nat.lt_of_lt_of_le (hq13 b h) hal7.size)) (fun _ h => .inl h) (fun _ h => .inr h)
       go_roundg (ws.length + 1 - a')
       case measure => omega
       case rel =>
        refine ⟨.inl ⟨a', m2, ks ++ [u], _, u, A1, c1, A2, c2, A3, c3, _, by omega, by omega, hXe, fun h => by rw [List.length_append] at h; simp only [List.length_cons, List.length_nil] at h; omega, ha', ho20, by simp [HRL.out], by simp, by rw [List.length_append]; simp only [List.length_cons, List.length_nil]; omega, hkl, (h13.below hal7).grown hg20 (fun g h h0 => by have := hob g h; have := hz0 g h0; omega), gb_blk (ps13.below hal7) hg20 (fun e => by have := hob _ e.symm; omega), gb_blk (pg213.below hal7) hg20 (fun e => by have := hob _ e.symm; omega), ?_, ?_, ?_, ?_, ?_⟩, Nat.le_trans hsz2' (Nat.le_trans hal7.size hg20.size), below_grown (below_on hV13 hal7) hg20 (fun g h => by have := hob g h; omega), gb_blk (pr13.below hal7) hg20 (fun e => by have := hob _ e.symm; omega)⟩
        · rintro (h | h)
          · exact nk1 h
          · exact nug1 h
        · rintro (h | h)
          · exact nk2 h
          · exact nug2 h
        · intro g hg
          have e : g' = g := by simpa [Value.ownBlock] using hg
          subst e
          rcases hor with h | h
          · rintro (h' | h')
            · exact HNO.out _ h h'
            · exact nuo _ h h'
          · rintro (h' | h')
            · have := hqk13 _ h'; omega
            · have := hq13 _ h'; omega
        · rintro b (h | h)
          · have := hqk13 _ h; omega
          · have := hq13 _ h; omega
        · rintro b (h | h)
          · exact hwk _ h
          · exact hwu _ h
     ·
      have hl2 : 2 ≤ ks.length := by
       rcases Nat.lt_or_ge 1 ks.length with h | h
       · exact h
       · have := HK1.out (by omega); exact absurd this c2
      rw [Bool.not_eq_true] at c2
      simp only [P.step, c2, Bool.false_eq_true, if_false] at hXe
      rw [c2] at mw
      clear c2
      have d1' : decide ((1 : Int) < (rs.length : Int)) = true := decide_eq_true (by omega)
      have d2' : decide (1 < rs.length) = true := decide_eq_true (by omega)
      have HRL := Lib.hid hrl
      clear hrl
      have qx := pg210.open9
      obtain ⟨y0, y1⟩ := ps10.duo
      go_upto_region 6 with (first
       | (go_at_call 64; refine (HWD.out _ h10).mono ?_; rintro ex w11 ⟨rfl, hb11⟩; have h11 := h10.below hb11; have hV11 := below_on hV10 hb11; have ps11 := ps10.below hb11; have pr11 := pr10.below hb11; have pg211 := pg210.below hb11; clear h10 hV10 ps10 pr10 y0 y1 pg210 qx; obtain ⟨y0, y1⟩ := ps11.duo; have qx := pg211.open9))
      obtain ⟨⟨p0, p1, p2, p3, p4, p5, p6, p7, p8⟩, z0, z1, z2, z3, z4, z5, z6, z7, z8⟩ := pr11.open9
      have ne' : ¬ (g2 = g1) := fun e => neg2 e.symm
      go_wp2_with fail
      refine bodyPost_ret (results_rl rfl _ _ _ _ _ _ _ _ _ _ _ _ rfl ((pr11.far6 neg2 _ _ _ _ _ _).set9 _ _ _ _ _ _ _ _ _)) rfl ?_
      have hob : ∀ q, (Value.slice BB rs.length cp).ownBlock = some q → w2.heap.size ≤ q := fun q h => HOK.out.base_le q h
      have hol := HOK.out.own_lt
      have hir := in_row (k := 17) (R' := fun b => Rk b ∨ (Value.slice BB rs.length cp).ownBlock = some b) (HOK.out.below hb11) HRL.out hk0 (fun i hi => (HKS.out i hi).below hb11) (fun _ h => .inl h) (fun _ h => .inr h)
      rw [hXe]
      have hf6 := fr6 w11 g2 (.int .i64 17) (.string ⟨#[]⟩) (.slice none 0 0) (.bool false) (.slice none 0 0) (.slice BB rs.length cp)
      have hs11 := hb11.size
      have hs6 := hf6.size
      have hrl := HRL.out
      rw [hrl] at hir hf6 ⊢
      refine dans_ok (t := P.nd 17 ks) (below_set9 (below_set6 hV11 lg2 _ _ _ _ _ _) hl1 _ _ _ _ _ _ _ _ _) ((hir.far hf6 ?_).far (fr9 _ _ _ _ _ _ _ _ _ _ _) ?_) ?_ (fun b h => Nat.lt_of_lt_of_le (?_ : b < w11.heap.size) (Nat.le_trans hf6.size (fr9 _ _ _ _ _ _ _ _ _ _ _).size)) ha1
      · rintro (h | h)
        · exact nk2 h
        · rw [← hrl] at h; have := hob _ h; omega
      · rintro (h | h)
        · exact nk1 h
        · rw [← hrl] at h; have := hob _ h; omega
      · rintro b (h | h)
        · exact hwk _ h
        · rw [← hrl] at h; have := hob _ h; exact .inr (by omega)
      · rcases h with h | h
        · have := hqk _ h; omega
        · rw [← hrl] at h; have := hol _ h; omega
end
end
section
open Go.RowKit
attribute [local go_sem] Oper.semAt_some
section
variable {R0 : Nat → Prop} {A : Option Addr} {c e : Nat} {ws : List Wd}
set_option maxRecDepth 100000 in
set_option maxHeartbeats 6400000 in
theorem or_d (f : Nat) (hop : ∀ f', f' ≤ f → DRule R0 A c ws e f' .anded 139) : DRule R0 A c ws e (f + 1) .ored 104 := by
 intro w a z hz h ha hX
 subst hz
 rw [P.G_succ] at hX ⊢
 obtain ⟨X, hXe⟩ : ∃ X, P.step e (P.G e f) .ored (ws.drop a) = X := ⟨_, rfl⟩
 rw [hXe] at hX ⊢
 unfold xv
 obtain ⟨w0, g0, g1, hW, hg0, hg1, ps0, pr0, hV0⟩ := enter_d w A ws.length c e
 have h0 := h.below hV0
 have hn := h.2.1
 have hz0 := h.2.2
 have ha1 : a ≤ 1048577 := by omega
 have hl1 : w.heap.size ≤ g1 := by omega
 have hl0 : w.heap.size ≤ g0 := by omega
 have wa1 : IntKind.i64.wrap ((a : Int) + 1) = (a : Int) + 1 := wrap_nat (by omega) (by omega)
 have HW := Lib.hid hW
 have HG0 := Lib.hid hg0
 have HG1 := Lib.hid hg1
 clear h hW hg0 hg1
 have HOP := Lib.hid hop
 clear hop
 obtain ⟨i0, hinfo, iz0, iz1, iz2⟩ := tree_info
 have hXe : (P.G e f .anded (ws.drop a)).bind (fun t r => if P.isW ⟨#[111, 114]⟩ r then P.G e f (.orL [t]) r else .ok t r) = X := hXe
 cases hY : P.G e f .anded (ws.drop a) with
 | out => rw [hY] at hXe; exact absurd hXe.symm hX
 | bad cd p =>
  rw [hY] at hXe
  have hXe : P.Rd.bad cd p = X := hXe
  subst hXe
  have HY := Lib.hid hY
  clear hX hY
  go_enter Tryz.func104, Tryz.ntmps104
  go_upto_region 1 with (fail)
  rw [← HW.out, ← HG1.out, ← HG0.out]
  obtain ⟨y0, y1⟩ := ps0.duo
  go_upto_region 2 with (go_at_call 139; refine ((HOP.out f (Nat.le_refl _)).bad h0 ha (by omega) HY.out).mono ?_; rintro ex w1 ⟨hcd, ⟨z3, rfl⟩, hb1⟩)
  have cd0 : ((cd : Int) == 0) = false := by simp; omega
  have cd1 : ((cd : Int) != 0) = true := by simp; omega
  have h1 := h0.below hb1
  have hV1 := below_on hV0 hb1
  have ps1 := ps0.below hb1
  have pr1 := pr0.below hb1
  clear h0 hV0 ps0 pr0 y0 y1
  obtain ⟨y0, y1⟩ := ps1.duo
  obtain ⟨w2, hw2, pg22, hb2⟩ := made_blk w1 #[.int .i64 0, .string ⟨#[]⟩, .slice none 0 0, .bool false, .slice none 0 0, .slice none 0 0, .int .i64 z3, .int .i64 (cd : Nat), .int .i64 (p : Nat)] 56
  obtain ⟨g2, hg2⟩ : ∃ x, x = w1.heap.size := ⟨_, rfl⟩
  rw [← hw2, ← hg2]
  rw [← hg2] at pg22
  have lg2 : w.heap.size ≤ g2 := by have := hV1.size; omega
  have neg2 : g1 ≠ g2 := by have := pr1.lt; omega
  have nzg2 : g0 ≠ g2 := by have := ps1.lt; omega
  clear hw2 hg2
  have h2 := h1.below hb2
  have hV2 := below_on hV1 hb2
  have ps2 := ps1.below hb2
  have pr2 := pr1.below hb2
  clear h1 hV1 ps1 pr1 y0 y1
  obtain ⟨y0, y1⟩ := ps2.duo
  have qx := pg22.open9
  have hb3 := below_alloc1 w2 (.cells #[.int .i64 0, .string ⟨#[]⟩, .slice none 0 0, .bool false, .slice none 0 0, .slice none 0 0] 28)
  go_upto_region 3 with (fail)
  clear qx
  obtain ⟨w3, hw3⟩ : ∃ x, w2.alloc (.cells #[.int .i64 0, .string ⟨#[]⟩, .slice none 0 0, .bool false, .slice none 0 0, .slice none 0 0] 28) = x := ⟨_, rfl⟩
  rw [hw3] at hb3 ⊢
  clear hw3
  have h3 := h2.below hb3
  have hV3 := below_on hV2 hb3
  have ps3 := ps2.below hb3
  have pr3 := pr2.below hb3
  have pg23 := pg22.below hb3
  clear h2 hV2 ps2 pr2 y0 y1 pg22
  obtain ⟨y0, y1⟩ := ps3.duo
  clear y0 y1
  go_loopg [6] 1 (fun gk _ wr => wr = w3)
  case atStart => rfl
  case round =>
   obtain rfl := hrel
   have qx := pg23.open9
   obtain ⟨⟨p0, p1, p2, p3, p4, p5, p6, p7, p8⟩, z0, z1, z2, z3, z4, z5, z6, z7, z8⟩ := pr3.open9
   go_wp2_with fail
   refine bodyPost_ret (results_rl rfl _ _ _ _ _ _ _ _ _ _ _ _ rfl (pr3.set9 _ _ _ _ _ _ _ _ _)) rfl ?_
   exact dans_bad (below_set9 hV3 hl1 _ _ _ _ _ _ _ _ _) hcd
 | ok t r =>
  rw [hY] at hXe
  have HY := Lib.hid hY
  clear hY
  go_enter Tryz.func104, Tryz.ntmps104
  go_upto_region 1 with (fail)
  rw [← HW.out, ← HG1.out, ← HG0.out]
  obtain ⟨y0, y1⟩ := ps0.duo
  go_upto_region 2 with (go_at_call 139; refine ((HOP.out f (Nat.le_refl _)).ok h0 ha (by omega) HY.out).mono ?_; rintro ex w1 ⟨⟨B1, d1, B2, d2, B3, d3, a1, rfl, rfl, ha1, hin⟩, hb1⟩)
  obtain ⟨Rt, hRt⟩ : ∃ R : Nat → Prop, DR R0 w0.heap.size w1.heap.size = R := ⟨_, rfl⟩
  rw [hRt] at hin
  have hint1 := hin
  clear hin
  have ntg1 : ¬ Rt g1 := by
   rw [← hRt]
   rintro (h | ⟨h, _⟩)
   · have := hz0 _ h; omega
   · have := pr0.lt; omega
  have hqt : ∀ b, Rt b → b < w1.heap.size := by
   rw [← hRt]
   rintro b (h | ⟨_, h⟩)
   · have := hz0 _ h; have := hV0.size; have := hb1.size; omega
   · exact h
  have hwt : ∀ b, Rt b → R0 b ∨ w.heap.size ≤ b := by
   rw [← hRt]
   rintro b (h | ⟨h, _⟩)
   · exact .inl h
   · exact .inr (Nat.le_trans hV0.size h)
  clear hRt
  have h1 := h0.below hb1
  have hV1 := below_on hV0 hb1
  have ps1 := ps0.below hb1
  have pr1 := pr0.below hb1
  clear h0 hV0 ps0 pr0 y0 y1
  obtain ⟨y0, y1⟩ := ps1.duo
  obtain ⟨w2, hw2, pg22, hb2⟩ := made_blk w1 #[.int .i64 t.k, .string t.nm, .slice B1 t.ns.length d1, .bool t.ng, .slice B2 t.mg.length d2, .slice B3 t.ks.length d3, .int .i64 (a1 : Nat), .int .i64 0, .int .i64 0] 56
  obtain ⟨g2, hg2⟩ : ∃ x, x = w1.heap.size := ⟨_, rfl⟩
  rw [← hw2, ← hg2]
  rw [← hg2] at pg22
  have lg2 : w.heap.size ≤ g2 := by have := hV1.size; omega
  have neg2 : g1 ≠ g2 := by have := pr1.lt; omega
  have nzg2 : g0 ≠ g2 := by have := ps1.lt; omega
  have ntg2 : ¬ Rt g2 := fun h => by have := hqt _ h; omega
  have hint2 := hint1.below hb2
  replace hqt : ∀ b, Rt b → b < w2.heap.size := fun b h => Nat.lt_of_lt_of_le (hqt b h) hb2.size
  clear hw2 hg2
  have h2 := h1.below hb2
  have hV2 := below_on hV1 hb2
  have ps2 := ps1.below hb2
  have pr2 := pr1.below hb2
  clear h1 hV1 ps1 pr1 y0 y1
  obtain ⟨y0, y1⟩ := ps2.duo
  have hXe : (if P.isW ⟨#[111, 114]⟩ (ws.drop a1) then P.G e f (.orL [t]) (ws.drop a1) else .ok t (ws.drop a1)) = X := hXe
  have qx := pg22.open9
  have hb3 := below_alloc1 w2 (.cells #[.int .i64 t.k, .string t.nm, .slice B1 t.ns.length d1, .bool t.ng, .slice B2 t.mg.length d2, .slice B3 t.ks.length d3] 28)
  have pk3 := Blk.new w2 28 #[.int .i64 t.k, .string t.nm, .slice B1 t.ns.length d1, .bool t.ng, .slice B2 t.mg.length d2, .slice B3 t.ks.length d3]
  go_upto_region 3 with (fail)
  clear qx
  obtain ⟨w3, hw3⟩ : ∃ x, w2.alloc (.cells #[.int .i64 t.k, .string t.nm, .slice B1 t.ns.length d1, .bool t.ng, .slice B2 t.mg.length d2, .slice B3 t.ks.length d3] 28) = x := ⟨_, rfl⟩
  obtain ⟨gk3, hgk3⟩ : ∃ x, w2.heap.size = x := ⟨_, rfl⟩
  rw [hw3] at hb3 pk3 ⊢
  rw [hgk3] at pk3 ⊢
  clear hw3
  have hint3 := hint2.below hb3
  have hlt2 := pg22.lt
  have hlt1 := pr2.lt
  have hlt0 := ps2.lt
  have ntk : ¬ Rt gk3 := fun h => by have := hqt _ h; omega
  replace hqt : ∀ b, Rt b → b < w3.heap.size := fun b h => Nat.lt_of_lt_of_le (hqt b h) hb3.size
  have h3 := h2.below hb3
  have hV3 := below_on hV2 hb3
  have ps3 := ps2.below hb3
  have pr3 := pr2.below hb3
  have pg23 := pg22.below hb3
  clear h2 hV2 ps2 pr2 y0 y1 pg22
  obtain ⟨y0, y1⟩ := ps3.duo
  have hok3 : OutK w3 w2.heap.size (.slice (some ⟨gk3, 0, none⟩) 1 1) [(tc t.k t.nm B1 t.ns.length d1 t.ng B2 t.mg.length d2 B3 t.ks.length d3)] := .inr ⟨gk3, 1, _, rfl, by omega, pk3, Nat.le_refl _, by decide, by simp [kcs, kcl, kzs, Builtin.zeroCells]⟩
  by_cases c1 : P.isW ⟨#[111, 114]⟩ (ws.drop a1) = true
  rotate_left
  ·
   rw [Bool.not_eq_true] at c1
   rw [c1, if_neg (by decide)] at hXe
   subst hXe
   obtain ⟨X2, hX2⟩ : ∃ x, P.tx (ws.drop a1) = x := ⟨_, rfl⟩
   have HWD := Lib.hid (fun (w' : World) (h : Dx w' R0 A ws) => by have h := word_d (c := c) (e := e) h a1 (by omega) _ rfl; rw [hX2] at h; exact h)
   have m1 : (X2.toList == [111, 114]) = P.isW ⟨#[111, 114]⟩ (ws.drop a1) := by rw [← hX2]; exact tx_beq ⟨#[111, 114]⟩ (by decide) _
   clear hX2
   rw [c1] at m1
   clear c1 hX hok3 pk3 y0 y1
   go_wp2_with fail
   go_loopg [6] 1 (fun gk v6 wr => wr = w3 ∧ v6 = .slice (some ⟨gk3, 0, none⟩) 1 1)
   case atStart => exact ⟨rfl, rfl⟩
   case round =>
    obtain ⟨hwr, rfl⟩ := hrel
    subst hwr
    have qx := pg23.open9
    obtain ⟨y0, y1⟩ := ps3.duo
    go_upto_region 6 with (first
     | (go_at_call 64; refine (HWD.out _ h3).mono ?_; rintro ex w4 ⟨rfl, hb4⟩; have h4 := h3.below hb4; have hV4 := below_on hV3 hb4; have ps4 := ps3.below hb4; have pr4 := pr3.below hb4; have pg24 := pg23.below hb4; have hint4 := hint3.below hb4; replace hqt : ∀ b, Rt b → b < w4.heap.size := fun b h => Nat.lt_of_lt_of_le (hqt b h) hb4.size; clear h3 hV3 ps3 pr3 y0 y1 pg23 qx hint3; obtain ⟨y0, y1⟩ := ps4.duo; have qx := pg24.open9))
    obtain ⟨⟨p0, p1, p2, p3, p4, p5, p6, p7, p8⟩, z0, z1, z2, z3, z4, z5, z6, z7, z8⟩ := pr4.open9
    go_wp2_with fail
    refine bodyPost_ret (results_rl rfl _ _ _ _ _ _ _ _ _ _ _ _ rfl (pr4.set9 _ _ _ _ _ _ _ _ _)) rfl ?_
    exact dans_ok (below_set9 hV4 hl1 _ _ _ _ _ _ _ _ _) (hint4.far (fr9 _ _ _ _ _ _ _ _ _ _ _) ntg1) hwt (fun b h => Nat.lt_of_lt_of_le (hqt b h) (fr9 _ _ _ _ _ _ _ _ _ _ _).size) ha1
  ·
   rw [if_pos c1] at hXe
   clear y0 y1
   have hgl := (P.G_len _ _ _ _ _ _ HY.out).2 rfl
   simp only [List.length_drop] at hgl
   go_wp2_with fail
   go_loopg [6] (ws.length + 1 - a1) (fun gk v6 wr => ((∃ (a1 m1 : Nat) (ks : List T) (rs : List Kc) (t : T) (B1 : Option Addr) (d1 : Nat) (B2 : Option Addr) (d2 : Nat) (B3 : Option Addr) (d3 : Nat) (Rk : Nat → Prop), gk + a1 = ws.length + 1 ∧ m1 ≤ f ∧ X = P.G e m1 (.orL ks) (ws.drop a1) ∧ (ks.length = 1 → P.isW ⟨#[111, 114]⟩ (ws.drop a1) = true) ∧ a1 ≤ ws.length ∧ OutK wr w2.heap.size v6 rs ∧ rs.length = ks.length ∧ 0 < ks.length ∧ ks.length ≤ a1 ∧ (∀ i, i < ks.length → T.In wr Rk (ks.getD i t0) (kv (rs.getD i kc0))) ∧ Dx wr R0 A ws ∧ Blk wr g0 54 #[.slice A ws.length c, .int .i64 (e : Nat)] ∧ Blk wr g2 56 #[.int .i64 t.k, .string t.nm, .slice B1 t.ns.length d1, .bool t.ng, .slice B2 t.mg.length d2, .slice B3 t.ks.length d3, .int .i64 (a1 : Nat), .int .i64 0, .int .i64 0] ∧ ¬ Rk g1 ∧ ¬ Rk g2 ∧ (∀ g, v6.ownBlock = some g → ¬ Rk g) ∧ (∀ b, Rk b → b < wr.heap.size) ∧ (∀ b, Rk b → R0 b ∨ w.heap.size ≤ b)) ∨ (∃ (cd p : Nat) (z3 : Int), X = .bad cd p ∧ cd ≠ 0 ∧ Blk wr g2 56 #[.int .i64 0, .string ⟨#[]⟩, .slice none 0 0, .bool false, .slice none 0 0, .slice none 0 0, .int .i64 z3, .int .i64 (cd : Nat), .int .i64 (p : Nat)])) ∧ w2.heap.size ≤ wr.heap.size ∧ Below w.heap.size w wr ∧ Blk wr g1 56 #[.int .i64 0, .string ⟨#[]⟩, .slice none 0 0, .bool false, .slice none 0 0, .slice none 0 0, .int .i64 0, .int .i64 0, .int .i64 0])
   case atStart => exact ⟨.inl ⟨a1, f, [t], _, t, B1, d1, B2, d2, B3, d3, Rt, by omega, Nat.le_refl _, hXe.symm, fun _ => c1, ha1, hok3, rfl, by simp, by simp; omega, fun i hi => (show i = 0 by simpa using hi) ▸ hint3, h3, ps3, pg23, ntg1, ntg2, fun g hg => (show gk3 = g by simpa [Value.ownBlock] using hg) ▸ ntk, hqt, hwt⟩, hb3.size, hV3, pr3⟩
   case round =>
    clear h3 hV3 ps3 pr3 pg23 hint3 ntg1 ntg2 ntk hqt hwt hXe ha1 hok3 pk3 c1 hb3
    obtain ⟨hor, hs2w, hV10, pr10⟩ := hrel
    rcases hor with ⟨a1, m1, ks, rs, t, B1, d1, B2, d2, B3, d3, Rk, hgk, hm1, hXe, hk1, ha1, hok, hrl, hk0, hka, hks, h10, ps10, pg210, nk1, nk2, nko, hqk, hwk⟩ | ⟨cd, p, z3, hXe, hcd, pg210⟩
    rotate_left
    · have cd0 : ((cd : Int) == 0) = false := by simp; omega
      have qx := pg210.open9
      obtain ⟨⟨p0, p1, p2, p3, p4, p5, p6, p7, p8⟩, z0, z1, z2, z3, z4, z5, z6, z7, z8⟩ := pr10.open9
      go_wp2_with fail
      refine bodyPost_ret (results_rl rfl _ _ _ _ _ _ _ _ _ _ _ _ rfl (pr10.set9 _ _ _ _ _ _ _ _ _)) rfl ?_
      rw [hXe]
      exact dans_bad (below_set9 hV10 hl1 _ _ _ _ _ _ _ _ _) hcd
    obtain ⟨BB, cp, rfl⟩ := hok.slice
    obtain ⟨X2, hX2⟩ : ∃ x, P.tx (ws.drop a1) = x := ⟨_, rfl⟩
    have HWD := Lib.hid (fun (w' : World) (h : Dx w' R0 A ws) => by have h := word_d (c := c) (e := e) h a1 (by omega) _ rfl; rw [hX2] at h; exact h)
    have mw : (X2.toList == [111, 114]) = P.isW ⟨#[111, 114]⟩ (ws.drop a1) := by rw [← hX2]; exact tx_beq ⟨#[111, 114]⟩ (by decide) _
    clear hX2
    have wa3 : IntKind.i64.wrap ((a1 : Int) + 1) = (a1 : Int) + 1 := wrap_nat (by omega) (by omega)
    have HOK := Lib.hid hok
    have HKS := Lib.hid hks
    have HNO := Lib.hid nko
    have HK1 := Lib.hid hk1
    clear hok hks nko hk1
    cases m1 with
    | zero => exact absurd hXe hX
    | succ m2 =>
     rw [P.G_succ] at hXe
     by_cases c2 : P.isW ⟨#[111, 114]⟩ (ws.drop a1) = true
     ·
      simp only [P.step, c2, if_true, tail_drop] at hXe
      have hal := isW_lt c2
      rw [c2] at mw
      clear c2
      have hlen2 : rs.length < 1048576 := by omega
      have HRL := Lib.hid hrl
      clear hrl
      cases hY : P.G e m2 .anded (ws.drop (a1 + 1)) with
      | out => rw [hY] at hXe; exact absurd hXe hX
      | bad cd p =>
       rw [hY] at hXe
       have hXe : X = .bad cd p := hXe
       have HY := Lib.hid hY
       clear hY
       have qx := pg210.open9
       obtain ⟨y0, y1⟩ := ps10.duo
       go_upto_region 4 with (first
        | (go_at_call 64; refine (HWD.out _ h10).mono ?_; rintro ex w11 ⟨rfl, hb11⟩; have h11 := h10.below hb11; have hV11 := below_on hV10 hb11; have ps11 := ps10.below hb11; have pr11 := pr10.below hb11; have pg211 := pg210.below hb11; clear h10 hV10 ps10 pr10 y0 y1 pg210 qx; obtain ⟨y0, y1⟩ := ps11.duo; have qx := pg211.open9))
       go_upto_region 5 with (go_at_call 139; refine ((HOP.out m2 (by omega)).bad h11 hal (by omega) HY.out).mono ?_; rintro ex w12 ⟨hcd, ⟨z3, rfl⟩, hb12⟩; obtain ⟨⟨p0, p1, p2, p3, p4, p5, p6, p7, p8⟩, z0, z1, z2, z4, z5, z6, z7, z8, z9⟩ := (pg211.below hb12).open9)
       clear qx p0 p1 p2 p3 p4 p5 p6 p7 p8 z0 z1 z2 z4 z5 z6 z7 z8 z9
       have cd0 : ((cd : Int) == 0) = false := by simp; omega
       have cd1 : ((cd : Int) != 0) = true := by simp; omega
       have h12 := h11.below hb12
       have hV12 := below_on hV11 hb12
       have ps12 := ps11.below hb12
       have pr12 := pr11.below hb12
       have pg212 := pg211.below hb12
       clear h11 hV11 ps11 pr11 y0 y1 pg211
       obtain ⟨y0, y1⟩ := ps12.duo
       obtain ⟨w13, hw13, pg213, hf13, hB13⟩ := nine_set pg212 (.int .i64 0) (.string ⟨#[]⟩) (.slice none 0 0) (.bool false) (.slice none 0 0) (.slice none 0 0) (.int .i64 z3) (.int .i64 (cd : Nat)) (.int .i64 (p : Nat))
       rw [← hw13]
       have hV13 := hB13 _ _ hV12 lg2
       have pr13 := hf13.blk pr12 (fun e => neg2 e)
       have hsz2 : w2.heap.size ≤ wr.heap.size := hs2w
       have hsz2' : w2.heap.size ≤ w13.heap.size := Nat.le_trans hs2w (Nat.le_trans hb11.size (Nat.le_trans hb12.size hf13.size))
       clear hw13 hB13
       clear hV12 pr12 pg212 ps12 h12
       have qx := pg213.open9
       have hal7 := below_alloc1 w13 (row1 (tc 0 ⟨#[]⟩ none 0 0 false none 0 0 none 0 0))
       have HOK7 := Lib.hid (HOK.out.far (Nat.le_trans (show w2.heap.size ≤ w2.heap.size from Nat.le_refl _) hsz2) (fun b h1 h2 => (((hal7.block b (by have := hb11.size; have := hb12.size; have := hf13.size; omega)).trans (hf13.block b (by have := hb11.size; have := hb12.size; omega) (by show ¬ b = g2; omega))).trans (hb12.block b (by have := hb11.size; omega))).trans (hb11.block b h2)))
       go_wp2_with (at_builtin; refine wpList_append_kid _ rfl (.tmp 29) (.tmp 32) 26 rfl w2.heap.size i0 Tryz.underlying26 hinfo iz0 iz1 iz2 _ rs rfl (HOK7.out) _ 1 (tc 0 ⟨#[]⟩ none 0 0 false none 0 0 none 0 0) rfl (kid_cells (Blk.new _ _ _)) (tc_one _ _ _ _ _ _ _ _ _ _ _ _) hlen2 (Nat.le_trans hsz2' hal7.size) ?_; intro g' cap w20 ho20 hg20 hor)
       have hob : ∀ q, (Value.slice BB rs.length cp).ownBlock = some q → w2.heap.size ≤ q := fun q h => HOK.out.base_le q h
       go_roundg 0
       case measure => omega
       case rel => exact ⟨.inr ⟨cd, p, z3, hXe, hcd, gb_blk (pg213.below hal7) hg20 (fun e => by have := hob _ e.symm; omega)⟩, Nat.le_trans hsz2' (Nat.le_trans hal7.size hg20.size), below_grown (below_on hV13 hal7) hg20 (fun g h => by have := hob g h; omega), gb_blk (pr13.below hal7) hg20 (fun e => by have := hob _ e.symm; omega)⟩
      | ok u r =>
       rw [hY] at hXe
       have hXe : X = P.G e m2 (.orL (ks ++ [u])) r := hXe
       have hgl := P.G_len _ _ _ _ _ _ hY
       have HY := Lib.hid hY
       clear hY
       have qx := pg210.open9
       obtain ⟨y0, y1⟩ := ps10.duo
       go_upto_region 4 with (first
        | (go_at_call 64; refine (HWD.out _ h10).mono ?_; rintro ex w11 ⟨rfl, hb11⟩; have h11 := h10.below hb11; have hV11 := below_on hV10 hb11; have ps11 := ps10.below hb11; have pr11 := pr10.below hb11; have pg211 := pg210.below hb11; clear h10 hV10 ps10 pr10 y0 y1 pg210 qx; obtain ⟨y0, y1⟩ := ps11.duo; have qx := pg211.open9))
       go_upto_region 5 with (go_at_call 139; refine ((HOP.out m2 (by omega)).ok h11 hal (by omega) HY.out).mono ?_; rintro ex w12 ⟨⟨A1, c1, A2, c2, A3, c3, a', rfl, rfl, ha', hin⟩, hb12⟩; obtain ⟨⟨p0, p1, p2, p3, p4, p5, p6, p7, p8⟩, z0, z1, z2, z4, z5, z6, z7, z8, z9⟩ := (pg211.below hb12).open9)
       clear qx p0 p1 p2 p3 p4 p5 p6 p7 p8 z0 z1 z2 z4 z5 z6 z7 z8 z9
       obtain ⟨Ru, hRu⟩ : ∃ R : Nat → Prop, DR R0 w11.heap.size w12.heap.size = R := ⟨_, rfl⟩
       rw [hRu] at hin
       have hinu12 := hin
       clear hin
       have nug1 : ¬ Ru g1 := by
        rw [← hRu]
        rintro (h | ⟨h, _⟩)
        · have := hz0 _ h; omega
        · have := pr11.lt; omega
       have nug2 : ¬ Ru g2 := by
        rw [← hRu]
        rintro (h | ⟨h, _⟩)
        · have := hz0 _ h; omega
        · have := pg211.lt; omega
       have hqu : ∀ b, Ru b → b < w12.heap.size := by
        rw [← hRu]
        rintro b (h | ⟨_, h⟩)
        · have := hz0 _ h; have := hV11.size; have := hb12.size; omega
        · exact h
       have hwu : ∀ b, Ru b → R0 b ∨ w.heap.size ≤ b := by
        rw [← hRu]
        rintro b (h | ⟨h, _⟩)
        · exact .inl h
        · exact .inr (Nat.le_trans hV11.size h)
       have nuo : ∀ g, (Value.slice BB rs.length cp).ownBlock = some g → ¬ Ru g := fun g hg => by
        have hbl := HOK.out.base_le g hg
        have hlt := HOK.out.own_lt g hg
        rw [← hRu]
        rintro (h | ⟨h, _⟩)
        · have := hz0 _ h; omega
        · have := hb11.size; omega
       clear hRu
       have h12 := h11.below hb12
       have hV12 := below_on hV11 hb12
       have ps12 := ps11.below hb12
       have pr12 := pr11.below hb12
       have pg212 := pg211.below hb12
       clear h11 hV11 ps11 pr11 y0 y1 pg211
       obtain ⟨y0, y1⟩ := ps12.duo
       obtain ⟨w13, hw13, pg213, hf13, hB13⟩ := nine_set pg212 (.int .i64 u.k) (.string u.nm) (.slice A1 u.ns.length c1) (.bool u.ng) (.slice A2 u.mg.length c2) (.slice A3 u.ks.length c3) (.int .i64 (a' : Nat)) (.int .i64 0) (.int .i64 0)
       rw [← hw13]
       have hV13 := hB13 _ _ hV12 lg2
       have pr13 := hf13.blk pr12 (fun e => neg2 e)
       have hsz2 : w2.heap.size ≤ wr.heap.size := hs2w
       have hsz2' : w2.heap.size ≤ w13.heap.size := Nat.le_trans hs2w (Nat.le_trans hb11.size (Nat.le_trans hb12.size hf13.size))
       clear hw13 hB13
       have h13 := h12.far hf13 (fun h => by have := hz0 _ h; omega)
       have ps13 := hf13.blk ps12 (fun e => nzg2 e)
       have hinu13 := hinu12.far hf13 nug2
       have HK13 := Lib.hid (fun i (hi : i < ks.length) => (((HKS.out i hi).below hb11).below hb12).far hf13 nk2)
       have hq13 : ∀ b, Ru b → b < w13.heap.size := fun b h => Nat.lt_of_lt_of_le (hqu b h) hf13.size
       have hqk13 : ∀ b, Rk b → b < w13.heap.size := fun b h => Nat.lt_of_lt_of_le (hqk b h) (Nat.le_trans hb11.size (Nat.le_trans hb12.size hf13.size))
       clear hV12 pr12 pg212 ps12 h12 hinu12
       have qx := pg213.open9
       have hal7 := below_alloc1 w13 (row1 (tc u.k u.nm A1 u.ns.length c1 u.ng A2 u.mg.length c2 A3 u.ks.length c3))
       have HOK7 := Lib.hid (HOK.out.far (Nat.le_trans (show w2.heap.size ≤ w2.heap.size from Nat.le_refl _) hsz2) (fun b h1 h2 => (((hal7.block b (by have := hb11.size; have := hb12.size; have := hf13.size; omega)).trans (hf13.block b (by have := hb11.size; have := hb12.size; omega) (by show ¬ b = g2; omega))).trans (hb12.block b (by have := hb11.size; omega))).trans (hb11.block b h2)))
       go_wp2_with (at_builtin; refine wpList_append_kid _ rfl (.tmp 29) (.tmp 32) 26 rfl w2.heap.size i0 Tryz.underlying26 hinfo iz0 iz1 iz2 _ rs rfl (HOK7.out) _ 1 (tc u.k u.nm A1 u.ns.length c1 u.ng A2 u.mg.length c2 A3 u.ks.length c3) rfl (kid_cells (Blk.new _ _ _)) (tc_one _ _ _ _ _ _ _ _ _ _ _ _) hlen2 (Nat.le_trans hsz2' hal7.size) ?_; intro g' cap w20 ho20 hg20 hor)
       have hob : ∀ q, (Value.slice BB rs.length cp).ownBlock = some q → w2.heap.size ≤ q := fun q h => HOK.out.base_le q h
       have hgl2 := hgl.2 rfl
       simp only [List.length_drop] at hgl2
       have hs20 : w13.heap.size ≤ w20.heap.size := Nat.le_trans hal7.size hg20.size
       replace hor := hor.imp id (Nat.le_trans hal7.size)
       have hkl := kid_last (R' := fun b => Rk b ∨ Ru b) HRL.out (fun i hi => ((HK13.out i hi).below hal7).grown hg20 (fun g h => HNO.out g h) (fun b h => Nat.lt_of_lt_of_le (hqk13 b h) hal7.size)) (r := (tc u.k u.nm A1 u.ns.length c1 u.ng A2 u.mg.length c2 A3 u.ks.length c3)) ((hinu13.below hal7).grown hg20 nuo (fun b h => Nat.lt_of_lt_of_le (hq13 b h) hal7.size)) (fun _ h => .inl h) (fun _ h => .inr h)
       go_roundg (ws.length + 1 - a')
       case measure => omega
       case rel =>
        refine ⟨.inl ⟨a', m2, ks ++ [u], _, u, A1, c1, A2, c2, A3, c3, _, by omega, by omega, hXe, fun h => by rw [List.length_append] at h; simp only [List.length_cons, List.length_nil] at h; omega, ha', ho20, by simp [HRL.out], by simp, by rw [List.length_append]; simp only [List.length_cons, List.length_nil]; omega, hkl, (h13.below hal7).grown hg20 (fun g h h0 => by have := hob g h; have := hz0 g h0; omega), gb_blk (ps13.below hal7) hg20 (fun e => by have := hob _ e.symm; omega), gb_blk (pg213.below hal7) hg20 (fun e => by have := hob _ e.symm; omega), ?_, ?_, ?_, ?_, ?_⟩, Nat.le_trans hsz2' (Nat.le_trans hal7.size hg20.size), below_grown (below_on hV13 hal7) hg20 (fun g h => by have := hob g h; omega), gb_blk (pr13.below hal7) hg20 (fun e => by have := hob _ e.symm; omega)⟩
        · rintro (h | h)
          · exact nk1 h
          · exact nug1 h
        · rintro (h | h)
          · exact nk2 h
          · exact nug2 h
        · intro g hg
          have e : g' = g := by simpa [Value.ownBlock] using hg
          subst e
          rcases hor with h | h
          · rintro (h' | h')
            · exact HNO.out _ h h'
            · exact nuo _ h h'
          · rintro (h' | h')
            · have := hqk13 _ h'; omega
            · have := hq13 _ h'; omega
        · rintro b (h | h)
          · have := hqk13 _ h; omega
          · have := hq13 _ h; omega
        · rintro b (h | h)
          · exact hwk _ h
          · exact hwu _ h
     ·
      have hl2 : 2 ≤ ks.length := by
       rcases Nat.lt_or_ge 1 ks.length with h | h
       · exact h
       · have := HK1.out (by omega); exact absurd this c2
      rw [Bool.not_eq_true] at c2
      simp only [P.step, c2, Bool.false_eq_true, if_false] at hXe
      rw [c2] at mw
      clear c2
      have d1' : decide ((1 : Int) < (rs.length : Int)) = true := decide_eq_true (by omega)
      have d2' : decide (1 < rs.length) = true := decide_eq_true (by omega)
      have HRL := Lib.hid hrl
      clear hrl
      have qx := pg210.open9
      obtain ⟨y0, y1⟩ := ps10.duo
      go_upto_region 6 with (first
       | (go_at_call 64; refine (HWD.out _ h10).mono ?_; rintro ex w11 ⟨rfl, hb11⟩; have h11 := h10.below hb11; have hV11 := below_on hV10 hb11; have ps11 := ps10.below hb11; have pr11 := pr10.below hb11; have pg211 := pg210.below hb11; clear h10 hV10 ps10 pr10 y0 y1 pg210 qx; obtain ⟨y0, y1⟩ := ps11.duo; have qx := pg211.open9))
      obtain ⟨⟨p0, p1, p2, p3, p4, p5, p6, p7, p8⟩, z0, z1, z2, z3, z4, z5, z6, z7, z8⟩ := pr11.open9
      have ne' : ¬ (g2 = g1) := fun e => neg2 e.symm
      go_wp2_with fail
      refine bodyPost_ret (results_rl rfl _ _ _ _ _ _ _ _ _ _ _ _ rfl ((pr11.far6 neg2 _ _ _ _ _ _).set9 _ _ _ _ _ _ _ _ _)) rfl ?_
      have hob : ∀ q, (Value.slice BB rs.length cp).ownBlock = some q → w2.heap.size ≤ q := fun q h => HOK.out.base_le q h
      have hol := HOK.out.own_lt
      have hir := in_row (k := 18) (R' := fun b => Rk b ∨ (Value.slice BB rs.length cp).ownBlock = some b) (HOK.out.below hb11) HRL.out hk0 (fun i hi => (HKS.out i hi).below hb11) (fun _ h => .inl h) (fun _ h => .inr h)
      rw [hXe]
      have hf6 := fr6 w11 g2 (.int .i64 18) (.string ⟨#[]⟩) (.slice none 0 0) (.bool false) (.slice none 0 0) (.slice BB rs.length cp)
      have hs11 := hb11.size
      have hs6 := hf6.size
      have hrl := HRL.out
      rw [hrl] at hir hf6 ⊢
      refine dans_ok (t := P.nd 18 ks) (below_set9 (below_set6 hV11 lg2 _ _ _ _ _ _) hl1 _ _ _ _ _ _ _ _ _) ((hir.far hf6 ?_).far (fr9 _ _ _ _ _ _ _ _ _ _ _) ?_) ?_ (fun b h => Nat.lt_of_lt_of_le (?_ : b < w11.heap.size) (Nat.le_trans hf6.size (fr9 _ _ _ _ _ _ _ _ _ _ _).size)) ha1
      · rintro (h | h)
        · exact nk2 h
        · rw [← hrl] at h; have := hob _ h; omega
      · rintro (h | h)
        · exact nk1 h
        · rw [← hrl] at h; have := hob _ h; omega
      · rintro b (h | h)
        · exact hwk _ h
        · rw [← hrl] at h; have := hob _ h; exact .inr (by omega)
      · rcases h with h | h
        · have := hqk _ h; omega
        · rw [← hrl] at h; have := hol _ h; omega
end
end
end Go.Proofs.YthiadenmljbdaaaGreatDoor

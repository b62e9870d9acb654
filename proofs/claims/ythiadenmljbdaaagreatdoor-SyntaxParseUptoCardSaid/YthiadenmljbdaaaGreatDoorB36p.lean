/-
  p: the parts SyntaxParse.
-/
import Derived.Test.YthiadenmljbdaaaGreatDoorB28p
import Derived.Test.YthiadenmljbdaaaGreatDoorB12p
import Derived.Test.YthiadenmljbdaaaGreatDoorB34p
import Derived.Test.YthiadenmljbdaaaGreatDoorB35p
namespace Go.Proofs.YthiadenmljbdaaaGreatDoor
section
open Go.RowKit
open Go.Shelf
theorem sf_blk {R0 : Nat → Prop} {w w' : World} {lo hi b : Nat} {ty : TypeId} {cs : Array Value} (hs : SF R0 w w' (fun x => lo ≤ x ∧ x < hi) (fun x => lo ≤ x ∧ x < hi)) (h0 : ∀ b, R0 b → lo ≤ b ∧ b < hi) (h : Blk w b ty cs) (hb : b < lo ∨ hi ≤ b) : Blk w' b ty cs :=
 hs.1.blk h (by rintro (⟨h, _⟩ | h); have := h0 _ h; omega; have : lo ≤ b ∧ b < hi := h; omega)
theorem sf_in {R0 R : Nat → Prop} {w w' : World} {lo hi : Nat} {t : T} {v : Value} (hs : SF R0 w w' (fun x => lo ≤ x ∧ x < hi) (fun x => lo ≤ x ∧ x < hi)) (h0 : ∀ b, R0 b → lo ≤ b ∧ b < hi) (h : T.In w R t v) (hR : ∀ b, R b → b < w.heap.size ∧ (b < lo ∨ hi ≤ b)) : T.In w' R t v :=
 h.fr (fun b hb => hs.1.block b (hR b hb).1 (by have := (hR b hb).2; rintro (⟨h, _⟩ | h); have := h0 _ h; omega; have : lo ≤ b ∧ b < hi := h; omega))
theorem sf_below {R0 : Nat → Prop} {w0 w w' : World} {lo hi : Nat} (hs : SF R0 w w' (fun x => lo ≤ x ∧ x < hi) (fun x => lo ≤ x ∧ x < hi)) (h0 : ∀ b, R0 b → lo ≤ b ∧ b < hi) (hb : Below w0.heap.size w0 w) (hl : w0.heap.size ≤ lo) : Below w0.heap.size w0 w' :=
 hb.trans ⟨hs.1.os, hs.1.tape, hs.1.output, hs.1.size, fun k hk => hs.1.block k (Nat.lt_of_lt_of_le hk hb.size) (by rintro (⟨h, _⟩ | h); have := h0 _ h; omega; have : lo ≤ k ∧ k < hi := h; omega)⟩
set_option maxRecDepth 100000 in
set_option maxHeartbeats 8000000 in
theorem walkSyntaxParse (w : World) (S : ByteArray) :
    Calls Tryz.prog 3 #[.string S] w fun e w' => e = .returned (.bool true) ∧ Below w.heap.size w w' := by
  obtain ⟨c, hc⟩ : ∃ c, (P.res S).1 = c := ⟨_, rfl⟩
  obtain ⟨p, hp⟩ : ∃ c, (P.res S).2.1 = c := ⟨_, rfl⟩
  obtain ⟨t, ht⟩ : ∃ c, (P.res S).2.2 = c := ⟨_, rfl⟩
  have hbt : t.bulk ≤ 1048576 := by rw [← ht]; exact Nat.le_trans (res_bulk S) (by decide)
  have HRP := Lib.hid (fun (w : World) => by have h := rparse_x w S; rw [hc, hp, ht] at h; exact h)
  have HPX := Lib.hid (fun (w : World) => by have h := parse_x w S; rw [hc, hp, ht] at h; exact h)
  clear hc hp ht
  go_enter Tryz.func3, Tryz.ntmps3
  go_upto_region 2 with (go_at_call 11; refine (HRP.out _).mono ?_; rintro e w1 ⟨A1, a1, A2, a2, A3, a3, rfl, hinW, hb1⟩)
  obtain ⟨V1, hV1', q1, m1, hb1'⟩ := two_new w1 #[.int .i64 t.k, .string t.nm, .slice A1 t.ns.length a1, .bool t.ng, .slice A2 t.mg.length a2, .slice A3 t.ks.length a3] (.int .i64 (c : Nat)) (.int .i64 (p : Nat))
  rw [← hV1']
  obtain ⟨k1, hk1⟩ : ∃ x, x = w1.heap.size + 1 := ⟨_, rfl⟩
  obtain ⟨g1, hg1⟩ : ∃ x, x = w1.heap.size := ⟨_, rfl⟩
  rw [← hk1] at m1 ⊢
  rw [← hg1] at q1 ⊢
  have HG1 := Lib.hid hg1
  have HK1 := Lib.hid hk1
  clear hg1 hk1
  have hU1 := below_on hb1 hb1'
  have HZ1 := Lib.hid hb1.size
  have hinW1 := hinW.below hb1'
  have hs1 : V1.heap.size = w1.heap.size + 2 := by rw [hV1']; simp
  clear hV1'
  go_upto_region 3 with (go_at_call 12; refine (HPX.out _).mono ?_; rintro e w2 ⟨v2, rfl, hgot2, hb2⟩; obtain ⟨B1, b1, B2, b2, B3, b3, rfl⟩ := T.GotE.form hgot2)
  obtain ⟨V2, hV2', q2, m2, hb2'⟩ := two_new w2 #[.int .i64 t.k, .string t.nm, .slice B1 t.ns.length b1, .bool t.ng, .slice B2 t.mg.length b2, .slice B3 t.ks.length b3] (.int .i64 (c : Nat)) (.int .i64 (p : Nat))
  rw [← hV2']
  obtain ⟨k2, hk2⟩ : ∃ x, x = w2.heap.size + 1 := ⟨_, rfl⟩
  obtain ⟨g2, hg2⟩ : ∃ x, x = w2.heap.size := ⟨_, rfl⟩
  rw [← hk2] at m2 ⊢
  rw [← hg2] at q2 ⊢
  have HG2 := Lib.hid hg2
  have HK2 := Lib.hid hk2
  clear hg2 hk2
  have hU2 := below_on (below_on hU1 hb2) hb2'
  have hs2 : V2.heap.size = w2.heap.size + 2 := by rw [hV2']; simp
  clear hV2'
  go_upto_region 4 with (go_at_call 12; refine (HPX.out _).mono ?_; rintro e w3 ⟨v3, rfl, hgot3, hb3⟩; obtain ⟨C1, c1, C2, c2, C3, c3, rfl⟩ := T.GotE.form hgot3)
  obtain ⟨V3, hV3', q3, m3, hb3'⟩ := two_new w3 #[.int .i64 t.k, .string t.nm, .slice C1 t.ns.length c1, .bool t.ng, .slice C2 t.mg.length c2, .slice C3 t.ks.length c3] (.int .i64 (c : Nat)) (.int .i64 (p : Nat))
  rw [← hV3']
  obtain ⟨k3, hk3⟩ : ∃ x, x = w3.heap.size + 1 := ⟨_, rfl⟩
  obtain ⟨g3, hg3⟩ : ∃ x, x = w3.heap.size := ⟨_, rfl⟩
  rw [← hk3] at m3 ⊢
  rw [← hg3] at q3 ⊢
  have HG3 := Lib.hid hg3
  have HK3 := Lib.hid hk3
  clear hg3 hk3
  have hU3 := below_on (below_on hU2 hb3) hb3'
  have hs3 : V3.heap.size = w3.heap.size + 2 := by rw [hV3']; simp
  clear hV3'
  have hB12 : Below w1.heap.size w1 V3 := (((hb1'.trans (hb2.mono hb1'.size)).trans (hb2'.mono (Nat.le_trans hb1'.size hb2.size))).trans (hb3.mono (Nat.le_trans hb1'.size (Nat.le_trans hb2.size hb2'.size)))).trans (hb3'.mono (Nat.le_trans hb1'.size (Nat.le_trans hb2.size (Nat.le_trans hb2'.size hb3.size))))
  have hB13 := below_on (below_on (below_on hb2 hb2') hb3) hb3'
  have hB2 := below_on (below_on hb2' hb3) hb3'
  have hB23 := below_on hb3 hb3'
  have q13 := q1.below hB13
  have m13 := m1.below hB13
  have q23 := q2.below hB23
  have m23 := m2.below hB23
  have HIW := Lib.hid (hinW.below hB12)
  have hina := T.GotE.In _ _ _ _ (fun b => V1.heap.size ≤ b ∧ b < w2.heap.size) hgot2 (fun _ h => h) (fun _ h1 h2 => ⟨h1, h2⟩)
  have HIA := Lib.hid (hina.below hB2)
  have hinb := T.GotE.In _ _ _ _ (fun b => V2.heap.size ≤ b ∧ b < w3.heap.size) hgot3 (fun _ h => h) (fun _ h1 h2 => ⟨h1, h2⟩)
  have HIB := Lib.hid (hinb.below hb3')
  have HSP := Lib.hid (T.GotE.sp _ _ _ _ (hgot2.later hB2 (Nat.le_refl _)))
  have z1 := hb1'.size
  have z2 := hb2.size
  have z3 := hb2'.size
  have z4 := hb3.size
  have z5 := hb3'.size
  have l1 := q1.lt
  have l1' := m1.lt
  clear hinW hinW1 hina hinb hgot2 hgot3 hB12 hB13 hB2 hB23 hb1 hb1' hb2 hb2' hb3 hb3' hU1 hU2
  obtain ⟨x0, x1, x2, x3, x4, x5⟩ := q13.six
  obtain ⟨y0, y1, y2, y3, y4, y5⟩ := q23.six
  obtain ⟨_, _, n0, n1⟩ := m13.facts
  obtain ⟨_, _, r0, r1⟩ := m23.facts
  obtain ⟨_, _, u0, u1⟩ := m3.facts
  go_upto_region 6 with (go_at_call 13; refine (exact_t 1048576 t t _ _ _ _ _ hbt hbt (Nat.le_refl _) rfl HIA.out HIW.out).mono ?_; rintro e w4 ⟨rfl, hb4⟩)
  have z6 := hb4.size
  have z0 := hU3.size
  have z7 : w.heap.size ≤ w1.heap.size := HZ1.out
  have hsp4 := T.Sp.sf (SF.of_below (x := fun _ => False) (y := fun _ => False) hb4) _ _ _ _ HSP.out (fun _ _ _ e => e)
  have h0 : ∀ b, (fun b => V1.heap.size ≤ b ∧ b < w2.heap.size) b → V1.heap.size ≤ b ∧ b < w2.heap.size := fun _ h => h
  have q14 := q13.below hb4
  have q34 := q3.below hb4
  have hiw4 := HIW.out.below hb4
  have hib4 := HIB.out.below hb4
  have hV4 := below_on hU3 hb4
  clear x0 x1 x2 x3 x4 x5 y0 y1 y2 y3 y4 y5 n0 n1 r0 r1 u0 u1
  obtain ⟨y0, y1, y2, y3, y4, y5⟩ := (q23.below hb4).six
  go_upto_region 7 with (go_at_call 14; refine (spoil_t 1048576 t w4 V1.heap.size w2.heap.size _ hbt (Nat.le_refl _) hsp4 (by omega) (fun b h => by have := h.2; omega)).mono ?_; rintro e w5 ⟨rfl, hS⟩)
  clear y0 y1 y2 y3 y4 y5
  have q15 := sf_blk hS h0 q14 (.inl l1)
  have q35 := sf_blk hS h0 q34 (.inr (by have := HG3.out; omega))
  have HW5 := Lib.hid (sf_in hS h0 hiw4 (fun b hb => ⟨by have : b < w1.heap.size := hb; omega, .inl (by have : b < w1.heap.size := hb; omega)⟩))
  have HB5 := Lib.hid (sf_in hS h0 hib4 (fun b hb => ⟨by have := hb.2; omega, .inr (by have := hb.1; omega)⟩))
  have hV5 := sf_below hS h0 hV4 (by omega)
  clear hS hsp4 q14 q34 hiw4 hib4 hV4 q13 q23 m13 m23 q3 m3
  obtain ⟨x0, x1, x2, x3, x4, x5⟩ := q15.six
  obtain ⟨y0, y1, y2, y3, y4, y5⟩ := q35.six
  go_upto_region 10 with (first
   | (go_at_call 12; refine (HPX.out _).mono ?_; rintro e w7 ⟨v7, rfl, hgot7, hb7⟩; obtain ⟨D1, d1, D2, d2, D3, d3, rfl⟩ := T.GotE.form hgot7; have hx6 := hb6)
   | (go_at_call 13; refine (exact_t 1048576 t t _ _ _ _ _ hbt hbt (Nat.le_refl _) rfl HB5.out HW5.out).mono ?_; rintro e w6 ⟨rfl, hb6⟩))
  clear x0 x1 x2 x3 x4 x5 y0 y1 y2 y3 y4 y5
  obtain ⟨V4, hV4', q4, m4, hb4'⟩ := two_new w7 #[.int .i64 t.k, .string t.nm, .slice D1 t.ns.length d1, .bool t.ng, .slice D2 t.mg.length d2, .slice D3 t.ks.length d3] (.int .i64 (c : Nat)) (.int .i64 (p : Nat))
  rw [← hV4']
  obtain ⟨k4, hk4⟩ : ∃ x, x = w7.heap.size + 1 := ⟨_, rfl⟩
  obtain ⟨g4, hg4⟩ : ∃ x, x = w7.heap.size := ⟨_, rfl⟩
  rw [← hk4] at m4 ⊢
  rw [← hg4] at q4 ⊢
  have HG4 := Lib.hid hg4
  have HK4 := Lib.hid hk4
  clear hg4 hk4
  have hB57 := below_on hb6 hb7
  have hB58 := below_on hB57 hb4'
  have hV8 := below_on hV5 hB58
  have q18 := q15.below hB58
  have HW8 := Lib.hid (HW5.out.below hB58)
  have hinc := T.GotE.In _ _ _ _ (fun b => w6.heap.size ≤ b ∧ b < w7.heap.size) hgot7 (fun _ h => h) (fun _ h1 h2 => ⟨h1, h2⟩)
  have HC8 := Lib.hid (hinc.below hb4')
  clear hV4' hinc hgot7 hB57 hB58
  obtain ⟨x0, x1, x2, x3, x4, x5⟩ := q18.six
  obtain ⟨y0, y1, y2, y3, y4, y5⟩ := q4.six
  go_wp2_with (first
   | (go_at_call 15; refine (known_w _).mono ?_; rintro e w10 ⟨rfl, hb10⟩; have hV10 := below_on hV9 hb10)
   | (go_at_call 13; refine (exact_t 1048576 t t _ _ _ _ _ hbt hbt (Nat.le_refl _) rfl HC8.out HW8.out).mono ?_; rintro e w9 ⟨rfl, hb9⟩; have hV9 := below_on hV8 hb9))
  go_ret
  exact ⟨rfl, hV10⟩
end
end Go.Proofs.YthiadenmljbdaaaGreatDoor

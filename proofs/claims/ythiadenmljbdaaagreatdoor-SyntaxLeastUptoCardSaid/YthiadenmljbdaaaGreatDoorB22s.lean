/-
  s: the parts WBodyA WBodyN WRow of the proof.
-/
import Derived.Test.YthiadenmljbdaaaGreatDoorB21s
section
namespace Go.Proofs.YthiadenmljbdaaaGreatDoor
open Go.RowKit
open Go.Shelf
attribute [local go_sem] Oper.semAt_some
set_option maxHeartbeats 3200000 in
set_option maxRecDepth 100000 in
theorem body_7 (t : T) (hk : t.k = 7) (ha : AtomW t) (hl : ∀ last, bodyB last t = atomB t) : BodyW t := by
  intro B b bs least last w R v hle hnp h hR hIs hlen hBw
  rw [hl last] at hlen ⊢
  have HA := Lib.hid ha
  clear ha hl
  have d1 : decide ((6 : Int) < (least : Int)) = false := by simp; rw [hk] at hnp; have : ¬ (6 < least) := fun h => hnp (.inl h); omega
  clear hnp hle
  have hIn := h
  obtain ⟨A1, c1, A2, c2, A3, c3, rfl, _⟩ := h.form
  obtain ⟨nm, hnm⟩ : ∃ x, t.nm = x := ⟨_, rfl⟩
  obtain ⟨ng, hng⟩ : ∃ x, t.ng = x := ⟨_, rfl⟩
  obtain ⟨n1, hn1⟩ : ∃ x, t.ns.length = x := ⟨_, rfl⟩
  obtain ⟨n2, hn2⟩ : ∃ x, t.mg.length = x := ⟨_, rfl⟩
  obtain ⟨n3, hn3⟩ : ∃ x, t.ks.length = x := ⟨_, rfl⟩
  rw [hk, hnm, hng, hn1, hn2, hn3] at hIn ⊢
  clear h hnm hng hn1 hn2 hn3
  unfold tv at hIn ⊢
  go_enter Tryz.func43, Tryz.ntmps43
  go_upto_region 1 with (fail)
  obtain ⟨W, hW, ps, hbW⟩ := made_blk w #[.int .i64 7, .string nm, .slice A1 n1 c1, .bool ng, .slice A2 n2 c2, .slice A3 n3 c3] 28
  obtain ⟨g, hg⟩ : ∃ g, g = w.heap.size := ⟨_, rfl⟩
  have HB : Hid (Lib.IsBuilder TW TB B b bs W) := Lib.hid (hW ▸ isB_alloc hIs _)
  have HK : Hid (Lib.OthersKept TB (some b) w W) := Lib.hid (hW ▸ (Lib.OthersKept.refl TB (some b) w).alloc _)
  have hBW : B ≤ W.heap.size := Nat.le_trans hBw hbW.size
  have HBW := Lib.hid (hbW.mono hBw)
  have HI1 := Lib.hid (hIn.under hR (hbW.mono hBw))
  have HR := Lib.hid hR
  rw [← hW, ← hg]
  rw [← hg] at ps
  have hgb : g ≠ b := by have := below_IsB hIs; omega
  clear hW hbW hIs hBw hg hIn hR
  obtain ⟨x0, x1, x2, x3, x4, x5⟩ := ps.six
  go_upto_region 6 with (go_at_call 75; refine (level_7 nm A1 n1 c1 ng A2 n2 c2 A3 n3 c3 W).mono ?_; rintro e w1 ⟨rfl, hb1⟩; have pg1 : Blk w1 g 28 #[.int .i64 7, .string nm, .slice A1 n1 c1, .bool ng, .slice A2 n2 c2, .slice A3 n3 c3] := ok_below hb1 g _ ps (by simpa using hgb) (fun c fz e => by injection e with _ e _; exact absurd e (by decide)); have HB1 := Lib.hid (isB_below HB.out hb1); have HBW1 := Lib.hid (HBW.out.trans (hb1.mono hBW)); have HK1 := Lib.hid (HK.out.trans (ok_below hb1)); have hB1 : B ≤ w1.heap.size := Nat.le_trans hBW hb1.size; have HI2 := Lib.hid (HI1.out.under HR.out (hb1.mono hBW)); clear x0 x1 x2 x3 x4 x5 hb1; obtain ⟨x0, x1, x2, x3, x4, x5⟩ := pg1.six)
  go_wp2_with (go_at_call 80; refine (HA.out B b bs _ R _ HI2.out HR.out HB1.out hlen hB1).mono ?_; rintro e w2 ⟨rfl, h2, hb2, hk2⟩)
  go_end0
  exact ⟨rfl, h2, HBW1.out.trans hb2, HK1.out.trans hk2⟩
set_option maxHeartbeats 3200000 in
set_option maxRecDepth 100000 in
theorem body_8 (t : T) (hk : t.k = 8) (ha : AtomW t) (hl : ∀ last, bodyB last t = atomB t) : BodyW t := by
  intro B b bs least last w R v hle hnp h hR hIs hlen hBw
  rw [hl last] at hlen ⊢
  have HA := Lib.hid ha
  clear ha hl
  have d1 : decide ((6 : Int) < (least : Int)) = false := by simp; rw [hk] at hnp; have : ¬ (6 < least) := fun h => hnp (.inl h); omega
  clear hnp hle
  have hIn := h
  obtain ⟨A1, c1, A2, c2, A3, c3, rfl, _⟩ := h.form
  obtain ⟨nm, hnm⟩ : ∃ x, t.nm = x := ⟨_, rfl⟩
  obtain ⟨ng, hng⟩ : ∃ x, t.ng = x := ⟨_, rfl⟩
  obtain ⟨n1, hn1⟩ : ∃ x, t.ns.length = x := ⟨_, rfl⟩
  obtain ⟨n2, hn2⟩ : ∃ x, t.mg.length = x := ⟨_, rfl⟩
  obtain ⟨n3, hn3⟩ : ∃ x, t.ks.length = x := ⟨_, rfl⟩
  rw [hk, hnm, hng, hn1, hn2, hn3] at hIn ⊢
  clear h hnm hng hn1 hn2 hn3
  unfold tv at hIn ⊢
  go_enter Tryz.func43, Tryz.ntmps43
  go_upto_region 1 with (fail)
  obtain ⟨W, hW, ps, hbW⟩ := made_blk w #[.int .i64 8, .string nm, .slice A1 n1 c1, .bool ng, .slice A2 n2 c2, .slice A3 n3 c3] 28
  obtain ⟨g, hg⟩ : ∃ g, g = w.heap.size := ⟨_, rfl⟩
  have HB : Hid (Lib.IsBuilder TW TB B b bs W) := Lib.hid (hW ▸ isB_alloc hIs _)
  have HK : Hid (Lib.OthersKept TB (some b) w W) := Lib.hid (hW ▸ (Lib.OthersKept.refl TB (some b) w).alloc _)
  have hBW : B ≤ W.heap.size := Nat.le_trans hBw hbW.size
  have HBW := Lib.hid (hbW.mono hBw)
  have HI1 := Lib.hid (hIn.under hR (hbW.mono hBw))
  have HR := Lib.hid hR
  rw [← hW, ← hg]
  rw [← hg] at ps
  have hgb : g ≠ b := by have := below_IsB hIs; omega
  clear hW hbW hIs hBw hg hIn hR
  obtain ⟨x0, x1, x2, x3, x4, x5⟩ := ps.six
  go_upto_region 6 with (go_at_call 75; refine (level_8 nm A1 n1 c1 ng A2 n2 c2 A3 n3 c3 W).mono ?_; rintro e w1 ⟨rfl, hb1⟩; have pg1 : Blk w1 g 28 #[.int .i64 8, .string nm, .slice A1 n1 c1, .bool ng, .slice A2 n2 c2, .slice A3 n3 c3] := ok_below hb1 g _ ps (by simpa using hgb) (fun c fz e => by injection e with _ e _; exact absurd e (by decide)); have HB1 := Lib.hid (isB_below HB.out hb1); have HBW1 := Lib.hid (HBW.out.trans (hb1.mono hBW)); have HK1 := Lib.hid (HK.out.trans (ok_below hb1)); have hB1 : B ≤ w1.heap.size := Nat.le_trans hBW hb1.size; have HI2 := Lib.hid (HI1.out.under HR.out (hb1.mono hBW)); clear x0 x1 x2 x3 x4 x5 hb1; obtain ⟨x0, x1, x2, x3, x4, x5⟩ := pg1.six)
  go_wp2_with (go_at_call 80; refine (HA.out B b bs _ R _ HI2.out HR.out HB1.out hlen hB1).mono ?_; rintro e w2 ⟨rfl, h2, hb2, hk2⟩)
  go_end0
  exact ⟨rfl, h2, HBW1.out.trans hb2, HK1.out.trans hk2⟩
set_option maxHeartbeats 3200000 in
set_option maxRecDepth 100000 in
theorem body_9 (t : T) (hk : t.k = 9) (ha : AtomW t) (hl : ∀ last, bodyB last t = atomB t) : BodyW t := by
  intro B b bs least last w R v hle hnp h hR hIs hlen hBw
  rw [hl last] at hlen ⊢
  have HA := Lib.hid ha
  clear ha hl
  have d1 : decide ((6 : Int) < (least : Int)) = false := by simp; rw [hk] at hnp; have : ¬ (6 < least) := fun h => hnp (.inl h); omega
  clear hnp hle
  have hIn := h
  obtain ⟨A1, c1, A2, c2, A3, c3, rfl, _⟩ := h.form
  obtain ⟨nm, hnm⟩ : ∃ x, t.nm = x := ⟨_, rfl⟩
  obtain ⟨ng, hng⟩ : ∃ x, t.ng = x := ⟨_, rfl⟩
  obtain ⟨n1, hn1⟩ : ∃ x, t.ns.length = x := ⟨_, rfl⟩
  obtain ⟨n2, hn2⟩ : ∃ x, t.mg.length = x := ⟨_, rfl⟩
  obtain ⟨n3, hn3⟩ : ∃ x, t.ks.length = x := ⟨_, rfl⟩
  rw [hk, hnm, hng, hn1, hn2, hn3] at hIn ⊢
  clear h hnm hng hn1 hn2 hn3
  unfold tv at hIn ⊢
  go_enter Tryz.func43, Tryz.ntmps43
  go_upto_region 1 with (fail)
  obtain ⟨W, hW, ps, hbW⟩ := made_blk w #[.int .i64 9, .string nm, .slice A1 n1 c1, .bool ng, .slice A2 n2 c2, .slice A3 n3 c3] 28
  obtain ⟨g, hg⟩ : ∃ g, g = w.heap.size := ⟨_, rfl⟩
  have HB : Hid (Lib.IsBuilder TW TB B b bs W) := Lib.hid (hW ▸ isB_alloc hIs _)
  have HK : Hid (Lib.OthersKept TB (some b) w W) := Lib.hid (hW ▸ (Lib.OthersKept.refl TB (some b) w).alloc _)
  have hBW : B ≤ W.heap.size := Nat.le_trans hBw hbW.size
  have HBW := Lib.hid (hbW.mono hBw)
  have HI1 := Lib.hid (hIn.under hR (hbW.mono hBw))
  have HR := Lib.hid hR
  rw [← hW, ← hg]
  rw [← hg] at ps
  have hgb : g ≠ b := by have := below_IsB hIs; omega
  clear hW hbW hIs hBw hg hIn hR
  obtain ⟨x0, x1, x2, x3, x4, x5⟩ := ps.six
  go_upto_region 6 with (go_at_call 75; refine (level_9 nm A1 n1 c1 ng A2 n2 c2 A3 n3 c3 W).mono ?_; rintro e w1 ⟨rfl, hb1⟩; have pg1 : Blk w1 g 28 #[.int .i64 9, .string nm, .slice A1 n1 c1, .bool ng, .slice A2 n2 c2, .slice A3 n3 c3] := ok_below hb1 g _ ps (by simpa using hgb) (fun c fz e => by injection e with _ e _; exact absurd e (by decide)); have HB1 := Lib.hid (isB_below HB.out hb1); have HBW1 := Lib.hid (HBW.out.trans (hb1.mono hBW)); have HK1 := Lib.hid (HK.out.trans (ok_below hb1)); have hB1 : B ≤ w1.heap.size := Nat.le_trans hBW hb1.size; have HI2 := Lib.hid (HI1.out.under HR.out (hb1.mono hBW)); clear x0 x1 x2 x3 x4 x5 hb1; obtain ⟨x0, x1, x2, x3, x4, x5⟩ := pg1.six)
  go_wp2_with (go_at_call 80; refine (HA.out B b bs _ R _ HI2.out HR.out HB1.out hlen hB1).mono ?_; rintro e w2 ⟨rfl, h2, hb2, hk2⟩)
  go_end0
  exact ⟨rfl, h2, HBW1.out.trans hb2, HK1.out.trans hk2⟩
set_option maxHeartbeats 3200000 in
set_option maxRecDepth 100000 in
theorem body_10 (t : T) (hk : t.k = 10) (ha : AtomW t) (hl : ∀ last, bodyB last t = atomB t) : BodyW t := by
  intro B b bs least last w R v hle hnp h hR hIs hlen hBw
  rw [hl last] at hlen ⊢
  have HA := Lib.hid ha
  clear ha hl
  have d1 : decide ((6 : Int) < (least : Int)) = false := by simp; rw [hk] at hnp; have : ¬ (6 < least) := fun h => hnp (.inl h); omega
  clear hnp hle
  have hIn := h
  obtain ⟨A1, c1, A2, c2, A3, c3, rfl, _⟩ := h.form
  obtain ⟨nm, hnm⟩ : ∃ x, t.nm = x := ⟨_, rfl⟩
  obtain ⟨ng, hng⟩ : ∃ x, t.ng = x := ⟨_, rfl⟩
  obtain ⟨n1, hn1⟩ : ∃ x, t.ns.length = x := ⟨_, rfl⟩
  obtain ⟨n2, hn2⟩ : ∃ x, t.mg.length = x := ⟨_, rfl⟩
  obtain ⟨n3, hn3⟩ : ∃ x, t.ks.length = x := ⟨_, rfl⟩
  rw [hk, hnm, hng, hn1, hn2, hn3] at hIn ⊢
  clear h hnm hng hn1 hn2 hn3
  unfold tv at hIn ⊢
  go_enter Tryz.func43, Tryz.ntmps43
  go_upto_region 1 with (fail)
  obtain ⟨W, hW, ps, hbW⟩ := made_blk w #[.int .i64 10, .string nm, .slice A1 n1 c1, .bool ng, .slice A2 n2 c2, .slice A3 n3 c3] 28
  obtain ⟨g, hg⟩ : ∃ g, g = w.heap.size := ⟨_, rfl⟩
  have HB : Hid (Lib.IsBuilder TW TB B b bs W) := Lib.hid (hW ▸ isB_alloc hIs _)
  have HK : Hid (Lib.OthersKept TB (some b) w W) := Lib.hid (hW ▸ (Lib.OthersKept.refl TB (some b) w).alloc _)
  have hBW : B ≤ W.heap.size := Nat.le_trans hBw hbW.size
  have HBW := Lib.hid (hbW.mono hBw)
  have HI1 := Lib.hid (hIn.under hR (hbW.mono hBw))
  have HR := Lib.hid hR
  rw [← hW, ← hg]
  rw [← hg] at ps
  have hgb : g ≠ b := by have := below_IsB hIs; omega
  clear hW hbW hIs hBw hg hIn hR
  obtain ⟨x0, x1, x2, x3, x4, x5⟩ := ps.six
  go_upto_region 6 with (go_at_call 75; refine (level_10 nm A1 n1 c1 ng A2 n2 c2 A3 n3 c3 W).mono ?_; rintro e w1 ⟨rfl, hb1⟩; have pg1 : Blk w1 g 28 #[.int .i64 10, .string nm, .slice A1 n1 c1, .bool ng, .slice A2 n2 c2, .slice A3 n3 c3] := ok_below hb1 g _ ps (by simpa using hgb) (fun c fz e => by injection e with _ e _; exact absurd e (by decide)); have HB1 := Lib.hid (isB_below HB.out hb1); have HBW1 := Lib.hid (HBW.out.trans (hb1.mono hBW)); have HK1 := Lib.hid (HK.out.trans (ok_below hb1)); have hB1 : B ≤ w1.heap.size := Nat.le_trans hBW hb1.size; have HI2 := Lib.hid (HI1.out.under HR.out (hb1.mono hBW)); clear x0 x1 x2 x3 x4 x5 hb1; obtain ⟨x0, x1, x2, x3, x4, x5⟩ := pg1.six)
  go_wp2_with (go_at_call 80; refine (HA.out B b bs _ R _ HI2.out HR.out HB1.out hlen hB1).mono ?_; rintro e w2 ⟨rfl, h2, hb2, hk2⟩)
  go_end0
  exact ⟨rfl, h2, HBW1.out.trans hb2, HK1.out.trans hk2⟩
set_option maxHeartbeats 3200000 in
set_option maxRecDepth 100000 in
theorem body_11 (t : T) (hk : t.k = 11) (ha : AtomW t) (hl : ∀ last, bodyB last t = atomB t) : BodyW t := by
  intro B b bs least last w R v hle hnp h hR hIs hlen hBw
  rw [hl last] at hlen ⊢
  have HA := Lib.hid ha
  clear ha hl
  have d1 : decide ((6 : Int) < (least : Int)) = false := by simp; rw [hk] at hnp; have : ¬ (6 < least) := fun h => hnp (.inl h); omega
  clear hnp hle
  have hIn := h
  obtain ⟨A1, c1, A2, c2, A3, c3, rfl, _⟩ := h.form
  obtain ⟨nm, hnm⟩ : ∃ x, t.nm = x := ⟨_, rfl⟩
  obtain ⟨ng, hng⟩ : ∃ x, t.ng = x := ⟨_, rfl⟩
  obtain ⟨n1, hn1⟩ : ∃ x, t.ns.length = x := ⟨_, rfl⟩
  obtain ⟨n2, hn2⟩ : ∃ x, t.mg.length = x := ⟨_, rfl⟩
  obtain ⟨n3, hn3⟩ : ∃ x, t.ks.length = x := ⟨_, rfl⟩
  rw [hk, hnm, hng, hn1, hn2, hn3] at hIn ⊢
  clear h hnm hng hn1 hn2 hn3
  unfold tv at hIn ⊢
  go_enter Tryz.func43, Tryz.ntmps43
  go_upto_region 1 with (fail)
  obtain ⟨W, hW, ps, hbW⟩ := made_blk w #[.int .i64 11, .string nm, .slice A1 n1 c1, .bool ng, .slice A2 n2 c2, .slice A3 n3 c3] 28
  obtain ⟨g, hg⟩ : ∃ g, g = w.heap.size := ⟨_, rfl⟩
  have HB : Hid (Lib.IsBuilder TW TB B b bs W) := Lib.hid (hW ▸ isB_alloc hIs _)
  have HK : Hid (Lib.OthersKept TB (some b) w W) := Lib.hid (hW ▸ (Lib.OthersKept.refl TB (some b) w).alloc _)
  have hBW : B ≤ W.heap.size := Nat.le_trans hBw hbW.size
  have HBW := Lib.hid (hbW.mono hBw)
  have HI1 := Lib.hid (hIn.under hR (hbW.mono hBw))
  have HR := Lib.hid hR
  rw [← hW, ← hg]
  rw [← hg] at ps
  have hgb : g ≠ b := by have := below_IsB hIs; omega
  clear hW hbW hIs hBw hg hIn hR
  obtain ⟨x0, x1, x2, x3, x4, x5⟩ := ps.six
  go_upto_region 6 with (go_at_call 75; refine (level_11 nm A1 n1 c1 ng A2 n2 c2 A3 n3 c3 W).mono ?_; rintro e w1 ⟨rfl, hb1⟩; have pg1 : Blk w1 g 28 #[.int .i64 11, .string nm, .slice A1 n1 c1, .bool ng, .slice A2 n2 c2, .slice A3 n3 c3] := ok_below hb1 g _ ps (by simpa using hgb) (fun c fz e => by injection e with _ e _; exact absurd e (by decide)); have HB1 := Lib.hid (isB_below HB.out hb1); have HBW1 := Lib.hid (HBW.out.trans (hb1.mono hBW)); have HK1 := Lib.hid (HK.out.trans (ok_below hb1)); have hB1 : B ≤ w1.heap.size := Nat.le_trans hBW hb1.size; have HI2 := Lib.hid (HI1.out.under HR.out (hb1.mono hBW)); clear x0 x1 x2 x3 x4 x5 hb1; obtain ⟨x0, x1, x2, x3, x4, x5⟩ := pg1.six)
  go_wp2_with (go_at_call 80; refine (HA.out B b bs _ R _ HI2.out HR.out HB1.out hlen hB1).mono ?_; rintro e w2 ⟨rfl, h2, hb2, hk2⟩)
  go_end0
  exact ⟨rfl, h2, HBW1.out.trans hb2, HK1.out.trans hk2⟩
set_option maxHeartbeats 3200000 in
set_option maxRecDepth 100000 in
theorem body_12 (t : T) (hk : t.k = 12) (ha : AtomW t) (hl : ∀ last, bodyB last t = atomB t) : BodyW t := by
  intro B b bs least last w R v hle hnp h hR hIs hlen hBw
  rw [hl last] at hlen ⊢
  have HA := Lib.hid ha
  clear ha hl
  have d1 : decide ((6 : Int) < (least : Int)) = false := by simp; rw [hk] at hnp; have : ¬ (6 < least) := fun h => hnp (.inl h); omega
  clear hnp hle
  have hIn := h
  obtain ⟨A1, c1, A2, c2, A3, c3, rfl, _⟩ := h.form
  obtain ⟨nm, hnm⟩ : ∃ x, t.nm = x := ⟨_, rfl⟩
  obtain ⟨ng, hng⟩ : ∃ x, t.ng = x := ⟨_, rfl⟩
  obtain ⟨n1, hn1⟩ : ∃ x, t.ns.length = x := ⟨_, rfl⟩
  obtain ⟨n2, hn2⟩ : ∃ x, t.mg.length = x := ⟨_, rfl⟩
  obtain ⟨n3, hn3⟩ : ∃ x, t.ks.length = x := ⟨_, rfl⟩
  rw [hk, hnm, hng, hn1, hn2, hn3] at hIn ⊢
  clear h hnm hng hn1 hn2 hn3
  unfold tv at hIn ⊢
  go_enter Tryz.func43, Tryz.ntmps43
  go_upto_region 1 with (fail)
  obtain ⟨W, hW, ps, hbW⟩ := made_blk w #[.int .i64 12, .string nm, .slice A1 n1 c1, .bool ng, .slice A2 n2 c2, .slice A3 n3 c3] 28
  obtain ⟨g, hg⟩ : ∃ g, g = w.heap.size := ⟨_, rfl⟩
  have HB : Hid (Lib.IsBuilder TW TB B b bs W) := Lib.hid (hW ▸ isB_alloc hIs _)
  have HK : Hid (Lib.OthersKept TB (some b) w W) := Lib.hid (hW ▸ (Lib.OthersKept.refl TB (some b) w).alloc _)
  have hBW : B ≤ W.heap.size := Nat.le_trans hBw hbW.size
  have HBW := Lib.hid (hbW.mono hBw)
  have HI1 := Lib.hid (hIn.under hR (hbW.mono hBw))
  have HR := Lib.hid hR
  rw [← hW, ← hg]
  rw [← hg] at ps
  have hgb : g ≠ b := by have := below_IsB hIs; omega
  clear hW hbW hIs hBw hg hIn hR
  obtain ⟨x0, x1, x2, x3, x4, x5⟩ := ps.six
  go_upto_region 6 with (go_at_call 75; refine (level_12 nm A1 n1 c1 ng A2 n2 c2 A3 n3 c3 W).mono ?_; rintro e w1 ⟨rfl, hb1⟩; have pg1 : Blk w1 g 28 #[.int .i64 12, .string nm, .slice A1 n1 c1, .bool ng, .slice A2 n2 c2, .slice A3 n3 c3] := ok_below hb1 g _ ps (by simpa using hgb) (fun c fz e => by injection e with _ e _; exact absurd e (by decide)); have HB1 := Lib.hid (isB_below HB.out hb1); have HBW1 := Lib.hid (HBW.out.trans (hb1.mono hBW)); have HK1 := Lib.hid (HK.out.trans (ok_below hb1)); have hB1 : B ≤ w1.heap.size := Nat.le_trans hBW hb1.size; have HI2 := Lib.hid (HI1.out.under HR.out (hb1.mono hBW)); clear x0 x1 x2 x3 x4 x5 hb1; obtain ⟨x0, x1, x2, x3, x4, x5⟩ := pg1.six)
  go_wp2_with (go_at_call 80; refine (HA.out B b bs _ R _ HI2.out HR.out HB1.out hlen hB1).mono ?_; rintro e w2 ⟨rfl, h2, hb2, hk2⟩)
  go_end0
  exact ⟨rfl, h2, HBW1.out.trans hb2, HK1.out.trans hk2⟩
set_option maxHeartbeats 3200000 in
set_option maxRecDepth 100000 in
theorem body_13 (t : T) (hk : t.k = 13) (ha : AtomW t) (hl : ∀ last, bodyB last t = atomB t) : BodyW t := by
  intro B b bs least last w R v hle hnp h hR hIs hlen hBw
  rw [hl last] at hlen ⊢
  have HA := Lib.hid ha
  clear ha hl
  have d1 : decide ((6 : Int) < (least : Int)) = false := by simp; rw [hk] at hnp; have : ¬ (6 < least) := fun h => hnp (.inl h); omega
  clear hnp hle
  have hIn := h
  obtain ⟨A1, c1, A2, c2, A3, c3, rfl, _⟩ := h.form
  obtain ⟨nm, hnm⟩ : ∃ x, t.nm = x := ⟨_, rfl⟩
  obtain ⟨ng, hng⟩ : ∃ x, t.ng = x := ⟨_, rfl⟩
  obtain ⟨n1, hn1⟩ : ∃ x, t.ns.length = x := ⟨_, rfl⟩
  obtain ⟨n2, hn2⟩ : ∃ x, t.mg.length = x := ⟨_, rfl⟩
  obtain ⟨n3, hn3⟩ : ∃ x, t.ks.length = x := ⟨_, rfl⟩
  rw [hk, hnm, hng, hn1, hn2, hn3] at hIn ⊢
  clear h hnm hng hn1 hn2 hn3
  unfold tv at hIn ⊢
  go_enter Tryz.func43, Tryz.ntmps43
  go_upto_region 1 with (fail)
  obtain ⟨W, hW, ps, hbW⟩ := made_blk w #[.int .i64 13, .string nm, .slice A1 n1 c1, .bool ng, .slice A2 n2 c2, .slice A3 n3 c3] 28
  obtain ⟨g, hg⟩ : ∃ g, g = w.heap.size := ⟨_, rfl⟩
  have HB : Hid (Lib.IsBuilder TW TB B b bs W) := Lib.hid (hW ▸ isB_alloc hIs _)
  have HK : Hid (Lib.OthersKept TB (some b) w W) := Lib.hid (hW ▸ (Lib.OthersKept.refl TB (some b) w).alloc _)
  have hBW : B ≤ W.heap.size := Nat.le_trans hBw hbW.size
  have HBW := Lib.hid (hbW.mono hBw)
  have HI1 := Lib.hid (hIn.under hR (hbW.mono hBw))
  have HR := Lib.hid hR
  rw [← hW, ← hg]
  rw [← hg] at ps
  have hgb : g ≠ b := by have := below_IsB hIs; omega
  clear hW hbW hIs hBw hg hIn hR
  obtain ⟨x0, x1, x2, x3, x4, x5⟩ := ps.six
  go_upto_region 6 with (go_at_call 75; refine (level_13 nm A1 n1 c1 ng A2 n2 c2 A3 n3 c3 W).mono ?_; rintro e w1 ⟨rfl, hb1⟩; have pg1 : Blk w1 g 28 #[.int .i64 13, .string nm, .slice A1 n1 c1, .bool ng, .slice A2 n2 c2, .slice A3 n3 c3] := ok_below hb1 g _ ps (by simpa using hgb) (fun c fz e => by injection e with _ e _; exact absurd e (by decide)); have HB1 := Lib.hid (isB_below HB.out hb1); have HBW1 := Lib.hid (HBW.out.trans (hb1.mono hBW)); have HK1 := Lib.hid (HK.out.trans (ok_below hb1)); have hB1 : B ≤ w1.heap.size := Nat.le_trans hBW hb1.size; have HI2 := Lib.hid (HI1.out.under HR.out (hb1.mono hBW)); clear x0 x1 x2 x3 x4 x5 hb1; obtain ⟨x0, x1, x2, x3, x4, x5⟩ := pg1.six)
  go_wp2_with (go_at_call 80; refine (HA.out B b bs _ R _ HI2.out HR.out HB1.out hlen hB1).mono ?_; rintro e w2 ⟨rfl, h2, hb2, hk2⟩)
  go_end0
  exact ⟨rfl, h2, HBW1.out.trans hb2, HK1.out.trans hk2⟩
set_option maxHeartbeats 3200000 in
set_option maxRecDepth 100000 in
theorem body_14 (t : T) (hk : t.k = 14) (ha : AtomW t) (hl : ∀ last, bodyB last t = atomB t) : BodyW t := by
  intro B b bs least last w R v hle hnp h hR hIs hlen hBw
  rw [hl last] at hlen ⊢
  have HA := Lib.hid ha
  clear ha hl
  have d1 : decide ((6 : Int) < (least : Int)) = false := by simp; rw [hk] at hnp; have : ¬ (6 < least) := fun h => hnp (.inl h); omega
  clear hnp hle
  have hIn := h
  obtain ⟨A1, c1, A2, c2, A3, c3, rfl, _⟩ := h.form
  obtain ⟨nm, hnm⟩ : ∃ x, t.nm = x := ⟨_, rfl⟩
  obtain ⟨ng, hng⟩ : ∃ x, t.ng = x := ⟨_, rfl⟩
  obtain ⟨n1, hn1⟩ : ∃ x, t.ns.length = x := ⟨_, rfl⟩
  obtain ⟨n2, hn2⟩ : ∃ x, t.mg.length = x := ⟨_, rfl⟩
  obtain ⟨n3, hn3⟩ : ∃ x, t.ks.length = x := ⟨_, rfl⟩
  rw [hk, hnm, hng, hn1, hn2, hn3] at hIn ⊢
  clear h hnm hng hn1 hn2 hn3
  unfold tv at hIn ⊢
  go_enter Tryz.func43, Tryz.ntmps43
  go_upto_region 1 with (fail)
  obtain ⟨W, hW, ps, hbW⟩ := made_blk w #[.int .i64 14, .string nm, .slice A1 n1 c1, .bool ng, .slice A2 n2 c2, .slice A3 n3 c3] 28
  obtain ⟨g, hg⟩ : ∃ g, g = w.heap.size := ⟨_, rfl⟩
  have HB : Hid (Lib.IsBuilder TW TB B b bs W) := Lib.hid (hW ▸ isB_alloc hIs _)
  have HK : Hid (Lib.OthersKept TB (some b) w W) := Lib.hid (hW ▸ (Lib.OthersKept.refl TB (some b) w).alloc _)
  have hBW : B ≤ W.heap.size := Nat.le_trans hBw hbW.size
  have HBW := Lib.hid (hbW.mono hBw)
  have HI1 := Lib.hid (hIn.under hR (hbW.mono hBw))
  have HR := Lib.hid hR
  rw [← hW, ← hg]
  rw [← hg] at ps
  have hgb : g ≠ b := by have := below_IsB hIs; omega
  clear hW hbW hIs hBw hg hIn hR
  obtain ⟨x0, x1, x2, x3, x4, x5⟩ := ps.six
  go_upto_region 6 with (go_at_call 75; refine (level_14 nm A1 n1 c1 ng A2 n2 c2 A3 n3 c3 W).mono ?_; rintro e w1 ⟨rfl, hb1⟩; have pg1 : Blk w1 g 28 #[.int .i64 14, .string nm, .slice A1 n1 c1, .bool ng, .slice A2 n2 c2, .slice A3 n3 c3] := ok_below hb1 g _ ps (by simpa using hgb) (fun c fz e => by injection e with _ e _; exact absurd e (by decide)); have HB1 := Lib.hid (isB_below HB.out hb1); have HBW1 := Lib.hid (HBW.out.trans (hb1.mono hBW)); have HK1 := Lib.hid (HK.out.trans (ok_below hb1)); have hB1 : B ≤ w1.heap.size := Nat.le_trans hBW hb1.size; have HI2 := Lib.hid (HI1.out.under HR.out (hb1.mono hBW)); clear x0 x1 x2 x3 x4 x5 hb1; obtain ⟨x0, x1, x2, x3, x4, x5⟩ := pg1.six)
  go_wp2_with (go_at_call 80; refine (HA.out B b bs _ R _ HI2.out HR.out HB1.out hlen hB1).mono ?_; rintro e w2 ⟨rfl, h2, hb2, hk2⟩)
  go_end0
  exact ⟨rfl, h2, HBW1.out.trans hb2, HK1.out.trans hk2⟩
set_option maxHeartbeats 3200000 in
set_option maxRecDepth 100000 in
theorem body_15 (t : T) (hk : t.k = 15) (ha : AtomW t) (hl : ∀ last, bodyB last t = atomB t) : BodyW t := by
  intro B b bs least last w R v hle hnp h hR hIs hlen hBw
  rw [hl last] at hlen ⊢
  have HA := Lib.hid ha
  clear ha hl
  have d1 : decide ((6 : Int) < (least : Int)) = false := by simp; rw [hk] at hnp; have : ¬ (6 < least) := fun h => hnp (.inl h); omega
  clear hnp hle
  have hIn := h
  obtain ⟨A1, c1, A2, c2, A3, c3, rfl, _⟩ := h.form
  obtain ⟨nm, hnm⟩ : ∃ x, t.nm = x := ⟨_, rfl⟩
  obtain ⟨ng, hng⟩ : ∃ x, t.ng = x := ⟨_, rfl⟩
  obtain ⟨n1, hn1⟩ : ∃ x, t.ns.length = x := ⟨_, rfl⟩
  obtain ⟨n2, hn2⟩ : ∃ x, t.mg.length = x := ⟨_, rfl⟩
  obtain ⟨n3, hn3⟩ : ∃ x, t.ks.length = x := ⟨_, rfl⟩
  rw [hk, hnm, hng, hn1, hn2, hn3] at hIn ⊢
  clear h hnm hng hn1 hn2 hn3
  unfold tv at hIn ⊢
  go_enter Tryz.func43, Tryz.ntmps43
  go_upto_region 1 with (fail)
  obtain ⟨W, hW, ps, hbW⟩ := made_blk w #[.int .i64 15, .string nm, .slice A1 n1 c1, .bool ng, .slice A2 n2 c2, .slice A3 n3 c3] 28
  obtain ⟨g, hg⟩ : ∃ g, g = w.heap.size := ⟨_, rfl⟩
  have HB : Hid (Lib.IsBuilder TW TB B b bs W) := Lib.hid (hW ▸ isB_alloc hIs _)
  have HK : Hid (Lib.OthersKept TB (some b) w W) := Lib.hid (hW ▸ (Lib.OthersKept.refl TB (some b) w).alloc _)
  have hBW : B ≤ W.heap.size := Nat.le_trans hBw hbW.size
  have HBW := Lib.hid (hbW.mono hBw)
  have HI1 := Lib.hid (hIn.under hR (hbW.mono hBw))
  have HR := Lib.hid hR
  rw [← hW, ← hg]
  rw [← hg] at ps
  have hgb : g ≠ b := by have := below_IsB hIs; omega
  clear hW hbW hIs hBw hg hIn hR
  obtain ⟨x0, x1, x2, x3, x4, x5⟩ := ps.six
  go_upto_region 6 with (go_at_call 75; refine (level_15 nm A1 n1 c1 ng A2 n2 c2 A3 n3 c3 W).mono ?_; rintro e w1 ⟨rfl, hb1⟩; have pg1 : Blk w1 g 28 #[.int .i64 15, .string nm, .slice A1 n1 c1, .bool ng, .slice A2 n2 c2, .slice A3 n3 c3] := ok_below hb1 g _ ps (by simpa using hgb) (fun c fz e => by injection e with _ e _; exact absurd e (by decide)); have HB1 := Lib.hid (isB_below HB.out hb1); have HBW1 := Lib.hid (HBW.out.trans (hb1.mono hBW)); have HK1 := Lib.hid (HK.out.trans (ok_below hb1)); have hB1 : B ≤ w1.heap.size := Nat.le_trans hBW hb1.size; have HI2 := Lib.hid (HI1.out.under HR.out (hb1.mono hBW)); clear x0 x1 x2 x3 x4 x5 hb1; obtain ⟨x0, x1, x2, x3, x4, x5⟩ := pg1.six)
  go_wp2_with (go_at_call 80; refine (HA.out B b bs _ R _ HI2.out HR.out HB1.out hlen hB1).mono ?_; rintro e w2 ⟨rfl, h2, hb2, hk2⟩)
  go_end0
  exact ⟨rfl, h2, HBW1.out.trans hb2, HK1.out.trans hk2⟩
end Go.Proofs.YthiadenmljbdaaaGreatDoor
end
section
namespace Go.Proofs.YthiadenmljbdaaaGreatDoor
open Go.RowKit
open Go.Shelf
attribute [local go_sem] Oper.semAt_some
set_option maxHeartbeats 3200000 in
set_option maxRecDepth 100000 in
theorem body_16 (u : T) (ih : FormW u) : BodyW (P.nd 16 [u]) := by
  intro B b bs least last w R v hle hnp h hR hIs hlen hBw
  have e : bodyB last (P.nd 16 [u]) = [110, 111, 116, 32] ++ formB 5 last u := by
    unfold bodyB
    rw [P.body_not, P.bytes_cons, P.bytes_cons]
    rfl
  rw [e] at hlen ⊢
  simp only [List.length_append, List.length_cons, List.length_nil] at hlen
  have e2 : bs ++ Lib.byteCells ([110, 111, 116, 32] ++ formB 5 last u) = (bs ++ Lib.strCells ⟨#[110, 111, 116, 32]⟩) ++ Lib.byteCells (formB 5 last u) := by simp [Lib.byteCells, Lib.strCells]
  rw [e2]
  have hls : (⟨#[110, 111, 116, 32]⟩ : ByteArray).size = 4 := rfl
  have hl1 : bs.length + (⟨#[110, 111, 116, 32]⟩ : ByteArray).size ≤ 140737488355328 := by omega
  have hl2 : (bs ++ Lib.strCells ⟨#[110, 111, 116, 32]⟩).length + (formB 5 last u).length ≤ 140737488355328 := by rw [List.length_append, Lib.strCells_length]; omega
  have HIH := Lib.hid ih
  have d1 : decide ((5 : Int) < (least : Int)) = false := by simp; omega
  clear e e2 hnp hle ih hls
  rw [P.nd, T.In] at h
  obtain ⟨A1, c1, A2, c2, A3, c3, rfl, _, _, hc3, hk⟩ := h
  obtain ⟨kb, ko, rfl, hRk, hI⟩ := hk (by simp)
  rw [T.Ins] at hI
  obtain ⟨⟨v0, v1, v2, v3, v4, v5, h6, hIn⟩, _⟩ := hI
  have hkB := hR kb hRk
  have H6 := Lib.hid h6
  clear hk h6
  unfold tv
  simp only [List.length_nil, List.length_cons, Nat.zero_add]
  go_enter Tryz.func43, Tryz.ntmps43
  go_upto_region 1 with (fail)
  obtain ⟨W, hW, ps, hbW⟩ := made_blk w #[.int .i64 16, .string ⟨#[]⟩, .slice A1 0 c1, .bool false, .slice A2 0 c2, .slice (some ⟨kb, ko, none⟩) 1 c3] 28
  obtain ⟨g, hg⟩ : ∃ g, g = w.heap.size := ⟨_, rfl⟩
  have HB : Hid (Lib.IsBuilder TW TB B b bs W) := Lib.hid (hW ▸ isB_alloc hIs _)
  have HK : Hid (Lib.OthersKept TB (some b) w W) := Lib.hid (hW ▸ (Lib.OthersKept.refl TB (some b) w).alloc _)
  have hBW : B ≤ W.heap.size := Nat.le_trans hBw hbW.size
  have HBW := Lib.hid (hbW.mono hBw)
  have HI1 := Lib.hid (hIn.under hR (hbW.mono hBw))
  have HR := Lib.hid hR
  rw [← hW, ← hg]
  rw [← hg] at ps
  have hgb : g ≠ b := by have := below_IsB hIs; omega
  clear hW hbW hIs hBw hg hIn hR
  obtain ⟨x0, x1, x2, x3, x4, x5⟩ := ps.six
  go_upto_region 6 with (go_at_call 75; refine (level_16 ⟨#[]⟩ A1 0 c1 false A2 0 c2 (some ⟨kb, ko, none⟩) 1 c3 W).mono ?_; rintro e w1 ⟨rfl, hb1⟩; have pg1 : Blk w1 g 28 #[.int .i64 16, .string ⟨#[]⟩, .slice A1 0 c1, .bool false, .slice A2 0 c2, .slice (some ⟨kb, ko, none⟩) 1 c3] := ok_below hb1 g _ ps (by simpa using hgb) (fun c fz e => by injection e with _ e _; exact absurd e (by decide)); have HB1 := Lib.hid (isB_below HB.out hb1); have HBW1 := Lib.hid (HBW.out.trans (hb1.mono hBW)); have HK1 := Lib.hid (HK.out.trans (ok_below hb1)); have hB1 : B ≤ w1.heap.size := Nat.le_trans hBW hb1.size; have HI2 := Lib.hid (HI1.out.under HR.out (hb1.mono hBW)); clear x0 x1 x2 x3 x4 x5 hb1; obtain ⟨x0, x1, x2, x3, x4, x5⟩ := pg1.six)
  go_upto_region 18 with (go_at_call 78; refine (wstr_w B b bs ⟨#[110, 111, 116, 32]⟩ _ HB1.out hl1 hB1).mono ?_; rintro e w2 ⟨rfl, h2, hb2, hk2⟩)
  have pg2 : Blk w2 g 28 #[.int .i64 16, .string ⟨#[]⟩, .slice A1 0 c1, .bool false, .slice A2 0 c2, .slice (some ⟨kb, ko, none⟩) 1 c3] := hk2 g _ pg1 (by simpa using hgb) (fun c fz e => by injection e with _ e _; exact absurd e (by decide))
  have HBW2 := Lib.hid (HBW1.out.trans hb2)
  have HK2 := Lib.hid (HK1.out.trans hk2)
  have hB2 : B ≤ w2.heap.size := Nat.le_trans hB1 hb2.size
  have HI3 := Lib.hid (HI2.out.under HR.out hb2)
  have H2 := Lib.hid h2
  clear x0 x1 x2 x3 x4 x5 h2 hb2 hk2 ps pg1
  obtain ⟨x0, x1, x2, x3, x4, x5⟩ := pg2.six
  obtain ⟨y0, y1, y2, y3, y4, y5⟩ := H6.out.keep (fun p v hp hc => (HBW2.out.cell (by rw [hp]; exact hkB)).trans hc)
  go_wp2_with (go_at_call 43; refine (HIH.out B b (bs ++ Lib.strCells ⟨#[110, 111, 116, 32]⟩) 5 last _ R _ (by decide) HI3.out HR.out (.inr H2.out) hl2 hB2).mono ?_; rintro e w3 ⟨rfl, h3, hb3, hk3⟩)
  go_end0
  exact ⟨rfl, h3, HBW2.out.trans hb3, HK2.out.trans hk3⟩
end Go.Proofs.YthiadenmljbdaaaGreatDoor
end
section
namespace Go.Proofs.YthiadenmljbdaaaGreatDoor
open Go.RowKit
open Go.Shelf
attribute [local go_sem] Oper.semAt_some
def rowB (wd : ByteArray) (o : Nat) (last : Bool) (ks : List T) : List UInt8 := P.bytes (P.rowR wd o last (P.parts ks))
theorem rowB_nil (wd : ByteArray) (o : Nat) (last : Bool) : rowB wd o last [] = [] := rfl
theorem rowB_cons (wd : ByteArray) (o : Nat) (last : Bool) (k : T) (ks : List T) : rowB wd o last (k :: ks) = (32 :: (wd.data.toList ++ [32])) ++ (formB o (last && ks.isEmpty) k ++ rowB wd o last ks) := by
  have e : (P.parts ks).isEmpty = ks.isEmpty := by
    cases ks with
    | nil => rfl
    | cons a b => rw [P.parts_cons]; rfl
  unfold rowB
  rw [P.parts_cons, P.rowR, P.bytes_cons, P.bytes_cons, P.bytes_cons, P.bytes_append, e]
  simp [P.itB, formB]
def restB (wd : ByteArray) (f o : Nat) (last : Bool) (l : List T) (i : Nat) : List UInt8 := if i = 0 then formB f false (l.getD 0 t0) ++ rowB wd o last l.tail else rowB wd o last (l.drop i)
theorem restB_0 (wd : ByteArray) (f o : Nat) (last : Bool) (l : List T) (h : 0 < l.length) : restB wd f o last l 0 = formB f false (l.getD 0 t0) ++ restB wd f o last l 1 := by
  unfold restB
  rw [if_pos rfl, if_neg (by decide)]
  cases l with
  | nil => simp at h
  | cons a b => rfl
theorem restB_s (wd : ByteArray) (f o : Nat) (last : Bool) (l : List T) (i : Nat) (h0 : 0 < i) (h : i < l.length) : restB wd f o last l i = (32 :: (wd.data.toList ++ [32])) ++ (formB o (last && decide (i + 1 = l.length)) (l.getD i t0) ++ restB wd f o last l (i + 1)) := by
  unfold restB
  rw [if_neg (by omega), if_neg (by omega)]
  have e : l.drop i = l.getD i t0 :: l.drop (i + 1) := by
    rw [List.drop_eq_getElem_cons h]
    simp [List.getD, h]
  have e2 : (l.drop (i + 1)).isEmpty = decide (i + 1 = l.length) := by
    rw [Bool.eq_iff_iff, List.isEmpty_iff, List.drop_eq_nil_iff, decide_eq_true_eq]
    omega
  rw [e, rowB_cons, e2]
theorem restB_n (wd : ByteArray) (f o : Nat) (last : Bool) (l : List T) (h : 0 < l.length) : restB wd f o last l l.length = [] := by
  unfold restB
  rw [if_neg (by omega), List.drop_length]
  rfl
theorem kid_form {w : World} {R : Nat → Prop} {u : T} {v0 v1 v2 v3 v4 v5 : Value} (h : T.In w R u (.agg #[v0, v1, v2, v3, v4, v5])) : ∃ B1 d1 m1 B2 d2 m2 B3 d3 m3 kk nm ng, v0 = .int .i64 kk ∧ v1 = .string nm ∧ v2 = .slice B1 m1 d1 ∧ v3 = .bool ng ∧ v4 = .slice B2 m2 d2 ∧ v5 = .slice B3 m3 d3 := by
  obtain ⟨B1, d1, B2, d2, B3, d3, e', _⟩ := h.form
  injection e' with e'
  injection e' with e'
  simp only [List.cons.injEq, and_true] at e'
  obtain ⟨h0, h1, h2, h3, h4, h5⟩ := e'
  exact ⟨B1, d1, _, B2, d2, _, B3, d3, _, _, _, _, h0, h1, h2, h3, h4, h5⟩
theorem in_formR {w : World} {R : Nat → Prop} {t : T} {v : Value} (h : T.In w R t v) : ∃ A1 c1 A2 c2 A3 c3, v = tv t.k t.nm A1 t.ns.length c1 t.ng A2 t.mg.length c2 A3 t.ks.length c3 ∧ StrL w R A1 c1 t.ns ∧ SlR w R A2 c2 t.mg ∧ t.ks.length ≤ c3 ∧ (0 < t.ks.length → ∃ b o, A3 = some ⟨b, o, none⟩ ∧ R b ∧ T.Ins w R b o t.ks) := by
  cases t
  rw [T.In] at h
  exact h
set_option maxHeartbeats 3200000 in
set_option maxRecDepth 100000 in
theorem row_w (t : T) (l : List T) (hl : t.ks = l) (hf : ∀ k ∈ l, FormW k) (h0 : 0 < l.length) (hbk : l.length ≤ 1048576) (wd word : ByteArray) (hword : word.data.toList = 32 :: (wd.data.toList ++ [32])) (f o : Nat) (hf5 : f ≤ 5) (ho5 : o ≤ 5) (last : Bool)
    (B b : Nat) (bs : List Value) (w : World) (R : Nat → Prop) (v : Value) (h : T.In w R t v) (hR : ∀ g, R g → g < B) (hIs : Lib.IsBuilder TW TB B b bs w)
    (TOT : List UInt8) (hT : restB wd f o last l 0 = TOT) (hlen : bs.length + TOT.length ≤ 140737488355328) (hBw : B ≤ w.heap.size) :
    Calls Tryz.prog 77 #[.pointer (some ⟨b, 0, none⟩), v, .string word, .int .i64 (f : Nat), .int .i64 (o : Nat), .bool last] w fun e w' => e = .returned (.tuple #[]) ∧ (Lib.BuilderAt TW TB B b (.pointer (some ⟨b, 0, none⟩)) (bs ++ Lib.byteCells TOT) w' ∧ Below B w w' ∧ Lib.OthersKept TB (some b) w w') := by
  obtain ⟨A1, c1, A2, c2, A3, c3, rfl, -, -, -, hkd⟩ := in_formR h
  rw [hl] at hkd ⊢
  obtain ⟨kb, ko, rfl, hRk, hI⟩ := hkd h0
  have hkB := hR kb hRk
  obtain ⟨nm, hnm⟩ : ∃ x, t.nm = x := ⟨_, rfl⟩
  obtain ⟨ng, hng⟩ : ∃ x, t.ng = x := ⟨_, rfl⟩
  obtain ⟨n1, hn1⟩ : ∃ x, t.ns.length = x := ⟨_, rfl⟩
  obtain ⟨n2, hn2⟩ : ∃ x, t.mg.length = x := ⟨_, rfl⟩
  obtain ⟨kk, hkk⟩ : ∃ x, t.k = x := ⟨_, rfl⟩
  rw [hnm, hng, hn1, hn2, hkk]
  clear hkd hnm hng hn1 hn2 hkk hRk h hl t
  have hwz : word.size = wd.size + 2 := by
    have : word.data.toList.length = word.size := Array.length_toList
    have h2 : wd.data.toList.length = wd.size := Array.length_toList
    rw [hword] at this
    simp only [List.length_cons, List.length_append, List.length_nil] at this
    omega
  have HWS : Hid (Lib.strCells word = Lib.byteCells (32 :: (wd.data.toList ++ [32]))) := Lib.hid (by rw [Lib.strCells_eq, hword])
  have hend := restB_n wd f o last l h0
  obtain ⟨n, hn⟩ : ∃ n, l.length = n := ⟨_, rfl⟩
  rw [hn] at h0 hbk hend ⊢
  obtain ⟨V, hV⟩ : ∃ V : World, V = w := ⟨_, rfl⟩
  have HI := Lib.hid hI
  have HR := Lib.hid hR
  have HF := Lib.hid hf
  have HN := Lib.hid hn
  have HIS := Lib.hid hIs
  have HT := Lib.hid hT
  have HE := Lib.hid hend
  have HWZ := Lib.hid hwz
  clear hI hR hf hn hT hend hwz
  have hbW := below_alloc1 w (.cells #[.int .i64 kk, .string nm, .slice A1 n1 c1, .bool ng, .slice A2 n2 c2, .slice (some ⟨kb, ko, none⟩) n c3] 28)
  have HB0 : Hid (Lib.IsBuilder TW TB B b bs (w.alloc (.cells #[.int .i64 kk, .string nm, .slice A1 n1 c1, .bool ng, .slice A2 n2 c2, .slice (some ⟨kb, ko, none⟩) n c3] 28))) := Lib.hid (isB_alloc hIs _)
  have HK0 := Lib.hid ((Lib.OthersKept.refl TB (some b) w).alloc (.cells #[.int .i64 kk, .string nm, .slice A1 n1 c1, .bool ng, .slice A2 n2 c2, .slice (some ⟨kb, ko, none⟩) n c3] 28))
  have HBW := Lib.hid (hbW.mono hBw)
  clear hIs hbW
  unfold tv
  cases last
  · go_enter Tryz.func77, Tryz.ntmps77
    go_wp2_with fail
    go_loopg [22] (n + 1) (fun gk v22 wr => ∃ (i : Nat) (wrt : List UInt8), gk + i = n + 1 ∧ i ≤ n ∧ v22 = .int .i64 (i : Nat) ∧ wrt ++ restB wd f o false l i = TOT ∧ Lib.IsBuilder TW TB B b (bs ++ Lib.byteCells wrt) wr ∧ (0 < i → Lib.BuilderAt TW TB B b (.pointer (some ⟨b, 0, none⟩)) (bs ++ Lib.byteCells wrt) wr) ∧ Below B w wr ∧ Lib.OthersKept TB (some b) w wr)
    case atStart => exact ⟨0, [], by omega, Nat.zero_le _, rfl, HT.out, by simpa [Lib.byteCells] using HB0.out, fun h => by omega, HBW.out, HK0.out⟩
    case round =>
      obtain ⟨i, wrt, hi, hin, rfl, hw, hIs, hat, hbw, hok⟩ := hrel
      by_cases hlt : i < n
      · obtain ⟨v0, v1, v2, v3, v4, v5, h6, hkI⟩ := T.Ins.get _ _ _ HI.out (by rw [HN.out]; exact hlt)
        have hfk := HF.out (l.getD i t0) (by rw [List.getD_eq_getElem?_getD, List.getElem?_eq_getElem (by rw [HN.out]; exact hlt)]; exact List.getElem_mem _)
        obtain ⟨k, hk⟩ : ∃ k, l.getD i t0 = k := ⟨_, rfl⟩
        rw [hk] at hkI hfk
        obtain ⟨B1, d1, m1, B2, d2v, m2, B3, d3, m3, kkk, nmk, ngk, rfl, rfl, rfl, rfl, rfl, rfl⟩ := kid_form hkI
        have hBr := Nat.le_trans hBw hbw.size
        obtain ⟨e0, e1, e2, e3, e4, e5⟩ := h6.keep (fun p v hp hc => (hbw.cell (by rw [hp]; exact hkB)).trans hc)
        obtain ⟨W, hW, ps, hbW⟩ := made_blk wr #[.int .i64 kkk, .string nmk, .slice B1 m1 d1, .bool ngk, .slice B2 m2 d2v, .slice B3 m3 d3] 28
        obtain ⟨g, hg⟩ : ∃ g, g = wr.heap.size := ⟨_, rfl⟩
        have HB : Hid (Lib.IsBuilder TW TB B b (bs ++ Lib.byteCells wrt) W) := Lib.hid (hW ▸ isB_alloc hIs _)
        have HK : Hid (Lib.OthersKept TB (some b) w W) := Lib.hid (hW ▸ hok.alloc _)
        have hBW : B ≤ W.heap.size := Nat.le_trans hBr hbW.size
        have HBW := Lib.hid (hbw.trans (hbW.mono hBr))
        have HKI := Lib.hid (hkI.under HR.out HBW.out)
        have HFK := Lib.hid hfk
        have HWT := Lib.hid hw
        have HIX := Lib.hid hk
        rw [← hg] at ps
        have hgb : g ≠ b := by have := below_IsB hIs; omega
        have hi0 : (0 : Int) ≤ i := by omega
        have hi1 : (i : Int) < n := by omega
        clear hbW hIs hbw hok hat h6 hkI hfk hw hk hBr
        have HW := Lib.hid hW
        have HG := Lib.hid hg
        clear hW hg
        rcases Nat.eq_zero_or_pos i with hz | hz
        · subst hz
          simp only [Nat.zero_mul, Nat.add_zero] at e0 e1 e2 e3 e4 e5
          have hre := restB_0 wd f o false l (by rw [HN.out]; exact hlt)
          rw [HIX.out] at hre
          have hlw := HWT.out
          rw [hre] at hlw
          have hll := congrArg List.length hlw
          simp only [List.length_append] at hll
          have hl1 : (bs ++ Lib.byteCells wrt).length + (formB f false k).length ≤ 140737488355328 := by rw [List.length_append, Lib.byteCells_length]; omega
          have HLW := Lib.hid hlw
          clear hre hlw hll
          go_upto_region 8 with (fail)
          rw [← HW.out, ← HG.out]
          obtain ⟨x0, x1, x2, x3, x4, x5⟩ := ps.six
          clear e0 e1 e2 e3 e4 e5
          go_wp2_with (go_at_call 43; refine (HFK.out B b _ f false _ R _ hf5 HKI.out HR.out HB.out hl1 hBW).mono ?_; rintro e w3 ⟨rfl, h3, hb3, hk3⟩)
          have e4 : bs ++ Lib.byteCells (wrt ++ formB f false k) = bs ++ Lib.byteCells wrt ++ Lib.byteCells (formB f false k) := by rw [Lib.byteCells_append, List.append_assoc]
          rw [← e4] at h3
          go_roundg n
          case measure => omega
          case rel => exact ⟨1, wrt ++ formB f false k, by omega, by omega, rfl, by rw [List.append_assoc]; exact HLW.out, .inr h3, fun _ => h3, HBW.out.trans hb3, HK.out.trans hk3⟩
        · have d0 : decide ((i : Int) > 0) = true := by simp; omega
          have d00 : decide ((0 : Int) < (i : Int)) = true := by simp; omega
          have hre := restB_s wd f o false l i hz (by rw [HN.out]; exact hlt)
          rw [HIX.out, HN.out, Bool.false_and] at hre
          skip
          have hlw := HWT.out
          rw [hre] at hlw
          have hll := congrArg List.length hlw
          simp only [List.length_append, List.length_cons, List.length_nil] at hll
          have hdl : wd.data.toList.length = wd.size := Array.length_toList
          have hwz2 := HWZ.out
          have hl1 : (bs ++ Lib.byteCells wrt).length + word.size ≤ 140737488355328 := by rw [List.length_append, Lib.byteCells_length]; omega
          have hl2 : ((bs ++ Lib.byteCells wrt) ++ Lib.strCells word).length + (formB o false k).length ≤ 140737488355328 := by rw [List.length_append, List.length_append, Lib.byteCells_length, Lib.strCells_length]; omega
          have HLW := Lib.hid hlw
          clear hre hlw hll hdl hwz2
          go_upto_region 6 with (fail)
          rw [← HW.out, ← HG.out]
          clear e0 e1 e2 e3 e4 e5
          go_upto_region 7 with (go_at_call 78; refine (wstr_w B b (bs ++ Lib.byteCells wrt) word _ HB.out hl1 hBW).mono ?_; rintro e w2 ⟨rfl, h2, hb2, hk2⟩)
          have pg : Blk w2 g 28 #[.int .i64 kkk, .string nmk, .slice B1 m1 d1, .bool ngk, .slice B2 m2 d2v, .slice B3 m3 d3] := hk2 g _ ps (by simpa using hgb) (fun c fz e => by injection e with _ e _; exact absurd e (by decide))
          have HBW2 := Lib.hid (HBW.out.trans hb2)
          have HK2 := Lib.hid (HK.out.trans hk2)
          have hB2 : B ≤ w2.heap.size := Nat.le_trans hBW hb2.size
          have HKI2 := Lib.hid (HKI.out.under HR.out hb2)
          have H2 := Lib.hid h2
          clear h2 hb2 hk2 ps
          obtain ⟨x0, x1, x2, x3, x4, x5⟩ := pg.six
          go_wp2_with (go_at_call 43; refine (HFK.out B b _ o false _ R _ ho5 HKI2.out HR.out (.inr H2.out) hl2 hB2).mono ?_; rintro e w3 ⟨rfl, h3, hb3, hk3⟩)
          have e4 : bs ++ Lib.byteCells (wrt ++ ((32 :: (wd.data.toList ++ [32])) ++ formB o false k)) = bs ++ Lib.byteCells wrt ++ Lib.strCells word ++ Lib.byteCells (formB o false k) := by rw [Lib.byteCells_append, Lib.byteCells_append, ← HWS.out, List.append_assoc, List.append_assoc]
          rw [← e4] at h3
          go_roundg (n - i)
          case measure => omega
          case rel => exact ⟨i + 1, wrt ++ ((32 :: (wd.data.toList ++ [32])) ++ formB o false k), by omega, by omega, by go_num, by rw [List.append_assoc, List.append_assoc]; exact HLW.out, .inr h3, fun _ => h3, HBW2.out.trans hb3, HK2.out.trans hk3⟩
      · obtain rfl : i = n := by omega
        have hwt := hw
        rw [HE.out, List.append_nil] at hwt
        subst hwt
        have hat := hat h0
        go_wp2_with fail
        go_end0
        exact ⟨rfl, hat, hbw, hok⟩
  · go_enter Tryz.func77, Tryz.ntmps77
    go_wp2_with fail
    go_loopg [22] (n + 1) (fun gk v22 wr => ∃ (i : Nat) (wrt : List UInt8), gk + i = n + 1 ∧ i ≤ n ∧ v22 = .int .i64 (i : Nat) ∧ wrt ++ restB wd f o true l i = TOT ∧ Lib.IsBuilder TW TB B b (bs ++ Lib.byteCells wrt) wr ∧ (0 < i → Lib.BuilderAt TW TB B b (.pointer (some ⟨b, 0, none⟩)) (bs ++ Lib.byteCells wrt) wr) ∧ Below B w wr ∧ Lib.OthersKept TB (some b) w wr)
    case atStart => exact ⟨0, [], by omega, Nat.zero_le _, rfl, HT.out, by simpa [Lib.byteCells] using HB0.out, fun h => by omega, HBW.out, HK0.out⟩
    case round =>
      obtain ⟨i, wrt, hi, hin, rfl, hw, hIs, hat, hbw, hok⟩ := hrel
      by_cases hlt : i < n
      · obtain ⟨v0, v1, v2, v3, v4, v5, h6, hkI⟩ := T.Ins.get _ _ _ HI.out (by rw [HN.out]; exact hlt)
        have hfk := HF.out (l.getD i t0) (by rw [List.getD_eq_getElem?_getD, List.getElem?_eq_getElem (by rw [HN.out]; exact hlt)]; exact List.getElem_mem _)
        obtain ⟨k, hk⟩ : ∃ k, l.getD i t0 = k := ⟨_, rfl⟩
        rw [hk] at hkI hfk
        obtain ⟨B1, d1, m1, B2, d2v, m2, B3, d3, m3, kkk, nmk, ngk, rfl, rfl, rfl, rfl, rfl, rfl⟩ := kid_form hkI
        have hBr := Nat.le_trans hBw hbw.size
        obtain ⟨e0, e1, e2, e3, e4, e5⟩ := h6.keep (fun p v hp hc => (hbw.cell (by rw [hp]; exact hkB)).trans hc)
        obtain ⟨W, hW, ps, hbW⟩ := made_blk wr #[.int .i64 kkk, .string nmk, .slice B1 m1 d1, .bool ngk, .slice B2 m2 d2v, .slice B3 m3 d3] 28
        obtain ⟨g, hg⟩ : ∃ g, g = wr.heap.size := ⟨_, rfl⟩
        have HB : Hid (Lib.IsBuilder TW TB B b (bs ++ Lib.byteCells wrt) W) := Lib.hid (hW ▸ isB_alloc hIs _)
        have HK : Hid (Lib.OthersKept TB (some b) w W) := Lib.hid (hW ▸ hok.alloc _)
        have hBW : B ≤ W.heap.size := Nat.le_trans hBr hbW.size
        have HBW := Lib.hid (hbw.trans (hbW.mono hBr))
        have HKI := Lib.hid (hkI.under HR.out HBW.out)
        have HFK := Lib.hid hfk
        have HWT := Lib.hid hw
        have HIX := Lib.hid hk
        rw [← hg] at ps
        have hgb : g ≠ b := by have := below_IsB hIs; omega
        have hi0 : (0 : Int) ≤ i := by omega
        have hi1 : (i : Int) < n := by omega
        clear hbW hIs hbw hok hat h6 hkI hfk hw hk hBr
        have HW := Lib.hid hW
        have HG := Lib.hid hg
        clear hW hg
        rcases Nat.eq_zero_or_pos i with hz | hz
        · subst hz
          simp only [Nat.zero_mul, Nat.add_zero] at e0 e1 e2 e3 e4 e5
          have hre := restB_0 wd f o true l (by rw [HN.out]; exact hlt)
          rw [HIX.out] at hre
          have hlw := HWT.out
          rw [hre] at hlw
          have hll := congrArg List.length hlw
          simp only [List.length_append] at hll
          have hl1 : (bs ++ Lib.byteCells wrt).length + (formB f false k).length ≤ 140737488355328 := by rw [List.length_append, Lib.byteCells_length]; omega
          have HLW := Lib.hid hlw
          clear hre hlw hll
          go_upto_region 8 with (fail)
          rw [← HW.out, ← HG.out]
          obtain ⟨x0, x1, x2, x3, x4, x5⟩ := ps.six
          clear e0 e1 e2 e3 e4 e5
          go_wp2_with (go_at_call 43; refine (HFK.out B b _ f false _ R _ hf5 HKI.out HR.out HB.out hl1 hBW).mono ?_; rintro e w3 ⟨rfl, h3, hb3, hk3⟩)
          have e4 : bs ++ Lib.byteCells (wrt ++ formB f false k) = bs ++ Lib.byteCells wrt ++ Lib.byteCells (formB f false k) := by rw [Lib.byteCells_append, List.append_assoc]
          rw [← e4] at h3
          go_roundg n
          case measure => omega
          case rel => exact ⟨1, wrt ++ formB f false k, by omega, by omega, rfl, by rw [List.append_assoc]; exact HLW.out, .inr h3, fun _ => h3, HBW.out.trans hb3, HK.out.trans hk3⟩
        · have d0 : decide ((i : Int) > 0) = true := by simp; omega
          have d00 : decide ((0 : Int) < (i : Int)) = true := by simp; omega
          have hre := restB_s wd f o true l i hz (by rw [HN.out]; exact hlt)
          rw [HIX.out, HN.out, Bool.true_and] at hre
          obtain ⟨q, hq⟩ : ∃ q, decide (i + 1 = n) = q := ⟨_, rfl⟩
          rw [hq] at hre
          have d2 : ((i : Int) == (n : Int) - 1) = q := by rw [← hq, Bool.eq_iff_iff, beq_iff_eq, decide_eq_true_eq]; omega
          clear hq
          have hlw := HWT.out
          rw [hre] at hlw
          have hll := congrArg List.length hlw
          simp only [List.length_append, List.length_cons, List.length_nil] at hll
          have hdl : wd.data.toList.length = wd.size := Array.length_toList
          have hwz2 := HWZ.out
          have hl1 : (bs ++ Lib.byteCells wrt).length + word.size ≤ 140737488355328 := by rw [List.length_append, Lib.byteCells_length]; omega
          have hl2 : ((bs ++ Lib.byteCells wrt) ++ Lib.strCells word).length + (formB o q k).length ≤ 140737488355328 := by rw [List.length_append, List.length_append, Lib.byteCells_length, Lib.strCells_length]; omega
          have HLW := Lib.hid hlw
          clear hre hlw hll hdl hwz2
          go_upto_region 6 with (fail)
          rw [← HW.out, ← HG.out]
          clear e0 e1 e2 e3 e4 e5
          go_upto_region 7 with (go_at_call 78; refine (wstr_w B b (bs ++ Lib.byteCells wrt) word _ HB.out hl1 hBW).mono ?_; rintro e w2 ⟨rfl, h2, hb2, hk2⟩)
          have pg : Blk w2 g 28 #[.int .i64 kkk, .string nmk, .slice B1 m1 d1, .bool ngk, .slice B2 m2 d2v, .slice B3 m3 d3] := hk2 g _ ps (by simpa using hgb) (fun c fz e => by injection e with _ e _; exact absurd e (by decide))
          have HBW2 := Lib.hid (HBW.out.trans hb2)
          have HK2 := Lib.hid (HK.out.trans hk2)
          have hB2 : B ≤ w2.heap.size := Nat.le_trans hBW hb2.size
          have HKI2 := Lib.hid (HKI.out.under HR.out hb2)
          have H2 := Lib.hid h2
          clear h2 hb2 hk2 ps
          obtain ⟨x0, x1, x2, x3, x4, x5⟩ := pg.six
          go_wp2_with (go_at_call 43; refine (HFK.out B b _ o q _ R _ ho5 HKI2.out HR.out (.inr H2.out) hl2 hB2).mono ?_; rintro e w3 ⟨rfl, h3, hb3, hk3⟩)
          have e4 : bs ++ Lib.byteCells (wrt ++ ((32 :: (wd.data.toList ++ [32])) ++ formB o q k)) = bs ++ Lib.byteCells wrt ++ Lib.strCells word ++ Lib.byteCells (formB o q k) := by rw [Lib.byteCells_append, Lib.byteCells_append, ← HWS.out, List.append_assoc, List.append_assoc]
          rw [← e4] at h3
          go_roundg (n - i)
          case measure => omega
          case rel => exact ⟨i + 1, wrt ++ ((32 :: (wd.data.toList ++ [32])) ++ formB o q k), by omega, by omega, by go_num, by rw [List.append_assoc, List.append_assoc]; exact HLW.out, .inr h3, fun _ => h3, HBW2.out.trans hb3, HK2.out.trans hk3⟩
      · obtain rfl : i = n := by omega
        have hwt := hw
        rw [HE.out, List.append_nil] at hwt
        subst hwt
        have hat := hat h0
        go_wp2_with fail
        go_end0
        exact ⟨rfl, hat, hbw, hok⟩
end Go.Proofs.YthiadenmljbdaaaGreatDoor
end

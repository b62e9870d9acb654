/-
  q: the parts WBodyA WBodyN WBodyR WForm WPrint.
-/
import Derived.Test.YthiadenmljbdaaaGreatDoorB26q
import Derived.Test.YthiadenmljbdaaaGreatDoorB27q
import Derived.Test.YthiadenmljbdaaaGreatDoorB13q
import Derived.Test.YthiadenmljbdaaaGreatDoorB21q
import Derived.Test.YthiadenmljbdaaaGreatDoorB20q
import Derived.Test.YthiadenmljbdaaaGreatDoorB11q
namespace Go.Proofs.YthiadenmljbdaaaGreatDoor
section
open Go.RowKit
open Go.Shelf
attribute [local go_sem] Oper.semAt_some
set_option maxHeartbeats 3200000 in
set_option maxRecDepth 100000 in
theorem body_7 (t : T) (hk : t.k = 7) (ha : AtomW t) (hl : ∀ last, bodyB last t = atomB t) : BodyW t := by
 intro B b bs least last w R v hle hnp h hR hIs hlen hBw
 rw [hl last] at hlen ⊢
 have HA := Lib.hid ha
 clear ha hl
 have d1 : decide ((6 : Int) < (least : Int)) = false := by simp; rw [hk] at hnp; have : ¬ (6 < least) := fun h => hnp (.inl h); omega
 clear hnp hle
 have hIn := h
 obtain ⟨A1, c1, A2, c2, A3, c3, rfl, _⟩ := h.form
 obtain ⟨nm, hnm⟩ : ∃ x, t.nm = x := ⟨_, rfl⟩
 obtain ⟨ng, hng⟩ : ∃ x, t.ng = x := ⟨_, rfl⟩
 obtain ⟨n1, hn1⟩ : ∃ x, t.ns.length = x := ⟨_, rfl⟩
 obtain ⟨n2, hn2⟩ : ∃ x, t.mg.length = x := ⟨_, rfl⟩
 obtain ⟨n3, hn3⟩ : ∃ x, t.ks.length = x := ⟨_, rfl⟩
 rw [hk, hnm, hng, hn1, hn2, hn3] at hIn ⊢
 clear h hnm hng hn1 hn2 hn3
 unfold tv at hIn ⊢
 go_enter Tryz.func43, Tryz.ntmps43
 go_upto_region 1 with (fail)
 obtain ⟨W, hW, ps, hbW⟩ := made_blk w #[.int .i64 7, .string nm, .slice A1 n1 c1, .bool ng, .slice A2 n2 c2, .slice A3 n3 c3] 28
 obtain ⟨g, hg⟩ : ∃ g, g = w.heap.size := ⟨_, rfl⟩
 have HB : Hid (Lib.IsBuilder TW TB B b bs W) := Lib.hid (hW ▸ isB_alloc hIs _)
 have HK : Hid (Lib.OthersKept TB (some b) w W) := Lib.hid (hW ▸ (Lib.OthersKept.refl TB (some b) w).alloc _)
 have hBW : B ≤ W.heap.size := Nat.le_trans hBw hbW.size
 have HBW := Lib.hid (hbW.mono hBw)
 have HI1 := Lib.hid (hIn.under hR (hbW.mono hBw))
 have HR := Lib.hid hR
 rw [← hW, ← hg]
 rw [← hg] at ps
 have hgb : g ≠ b := by have := below_IsB hIs; omega
 clear hW hbW hIs hBw hg hIn hR
 obtain ⟨x0, x1, x2, x3, x4, x5⟩ := ps.six
 go_upto_region 6 with (go_at_call 75; refine (level_7 nm A1 n1 c1 ng A2 n2 c2 A3 n3 c3 W).mono ?_; rintro e w1 ⟨rfl, hb1⟩; have pg1 : Blk w1 g 28 #[.int .i64 7, .string nm, .slice A1 n1 c1, .bool ng, .slice A2 n2 c2, .slice A3 n3 c3] := ok_below hb1 g _ ps (by simpa using hgb) (fun c fz e => by injection e with _ e _; exact absurd e (by decide)); have HB1 := Lib.hid (isB_below HB.out hb1); have HBW1 := Lib.hid (HBW.out.trans (hb1.mono hBW)); have HK1 := Lib.hid (HK.out.trans (ok_below hb1)); have hB1 : B ≤ w1.heap.size := Nat.le_trans hBW hb1.size; have HI2 := Lib.hid (HI1.out.under HR.out (hb1.mono hBW)); clear x0 x1 x2 x3 x4 x5 hb1; obtain ⟨x0, x1, x2, x3, x4, x5⟩ := pg1.six)
 go_wp2_with (go_at_call 80; refine (HA.out B b bs _ R _ HI2.out HR.out HB1.out hlen hB1).mono ?_; rintro e w2 ⟨rfl, h2, hb2, hk2⟩)
 go_end0
 exact ⟨rfl, h2, HBW1.out.trans hb2, HK1.out.trans hk2⟩
set_option maxHeartbeats 3200000 in
set_option maxRecDepth 100000 in
theorem body_8 (t : T) (hk : t.k = 8) (ha : AtomW t) (hl : ∀ last, bodyB last t = atomB t) : BodyW t := by
 intro B b bs least last w R v hle hnp h hR hIs hlen hBw
 rw [hl last] at hlen ⊢
 have HA := Lib.hid ha
 clear ha hl
 have d1 : decide ((6 : Int) < (least : Int)) = false := by simp; rw [hk] at hnp; have : ¬ (6 < least) := fun h => hnp (.inl h); omega
 clear hnp hle
 have hIn := h
 obtain ⟨A1, c1, A2, c2, A3, c3, rfl, _⟩ := h.form
 obtain ⟨nm, hnm⟩ : ∃ x, t.nm = x := ⟨_, rfl⟩
 obtain ⟨ng, hng⟩ : ∃ x, t.ng = x := ⟨_, rfl⟩
 obtain ⟨n1, hn1⟩ : ∃ x, t.ns.length = x := ⟨_, rfl⟩
 obtain ⟨n2, hn2⟩ : ∃ x, t.mg.length = x := ⟨_, rfl⟩
 obtain ⟨n3, hn3⟩ : ∃ x, t.ks.length = x := ⟨_, rfl⟩
 rw [hk, hnm, hng, hn1, hn2, hn3] at hIn ⊢
 clear h hnm hng hn1 hn2 hn3
 unfold tv at hIn ⊢
 go_enter Tryz.func43, Tryz.ntmps43
 go_upto_region 1 with (fail)
 obtain ⟨W, hW, ps, hbW⟩ := made_blk w #[.int .i64 8, .string nm, .slice A1 n1 c1, .bool ng, .slice A2 n2 c2, .slice A3 n3 c3] 28
 obtain ⟨g, hg⟩ : ∃ g, g = w.heap.size := ⟨_, rfl⟩
 have HB : Hid (Lib.IsBuilder TW TB B b bs W) := Lib.hid (hW ▸ isB_alloc hIs _)
 have HK : Hid (Lib.OthersKept TB (some b) w W) := Lib.hid (hW ▸ (Lib.OthersKept.refl TB (some b) w).alloc _)
 have hBW : B ≤ W.heap.size := Nat.le_trans hBw hbW.size
 have HBW := Lib.hid (hbW.mono hBw)
 have HI1 := Lib.hid (hIn.under hR (hbW.mono hBw))
 have HR := Lib.hid hR
 rw [← hW, ← hg]
 rw [← hg] at ps
 have hgb : g ≠ b := by have := below_IsB hIs; omega
 clear hW hbW hIs hBw hg hIn hR
 obtain ⟨x0, x1, x2, x3, x4, x5⟩ := ps.six
 go_upto_region 6 with (go_at_call 75; refine (level_8 nm A1 n1 c1 ng A2 n2 c2 A3 n3 c3 W).mono ?_; rintro e w1 ⟨rfl, hb1⟩; have pg1 : Blk w1 g 28 #[.int .i64 8, .string nm, .slice A1 n1 c1, .bool ng, .slice A2 n2 c2, .slice A3 n3 c3] := ok_below hb1 g _ ps (by simpa using hgb) (fun c fz e => by injection e with _ e _; exact absurd e (by decide)); have HB1 := Lib.hid (isB_below HB.out hb1); have HBW1 := Lib.hid (HBW.out.trans (hb1.mono hBW)); have HK1 := Lib.hid (HK.out.trans (ok_below hb1)); have hB1 : B ≤ w1.heap.size := Nat.le_trans hBW hb1.size; have HI2 := Lib.hid (HI1.out.under HR.out (hb1.mono hBW)); clear x0 x1 x2 x3 x4 x5 hb1; obtain ⟨x0, x1, x2, x3, x4, x5⟩ := pg1.six)
 go_wp2_with (go_at_call 80; refine (HA.out B b bs _ R _ HI2.out HR.out HB1.out hlen hB1).mono ?_; rintro e w2 ⟨rfl, h2, hb2, hk2⟩)
 go_end0
 exact ⟨rfl, h2, HBW1.out.trans hb2, HK1.out.trans hk2⟩
set_option maxHeartbeats 3200000 in
set_option maxRecDepth 100000 in
theorem body_9 (t : T) (hk : t.k = 9) (ha : AtomW t) (hl : ∀ last, bodyB last t = atomB t) : BodyW t := by
 intro B b bs least last w R v hle hnp h hR hIs hlen hBw
 rw [hl last] at hlen ⊢
 have HA := Lib.hid ha
 clear ha hl
 have d1 : decide ((6 : Int) < (least : Int)) = false := by simp; rw [hk] at hnp; have : ¬ (6 < least) := fun h => hnp (.inl h); omega
 clear hnp hle
 have hIn := h
 obtain ⟨A1, c1, A2, c2, A3, c3, rfl, _⟩ := h.form
 obtain ⟨nm, hnm⟩ : ∃ x, t.nm = x := ⟨_, rfl⟩
 obtain ⟨ng, hng⟩ : ∃ x, t.ng = x := ⟨_, rfl⟩
 obtain ⟨n1, hn1⟩ : ∃ x, t.ns.length = x := ⟨_, rfl⟩
 obtain ⟨n2, hn2⟩ : ∃ x, t.mg.length = x := ⟨_, rfl⟩
 obtain ⟨n3, hn3⟩ : ∃ x, t.ks.length = x := ⟨_, rfl⟩
 rw [hk, hnm, hng, hn1, hn2, hn3] at hIn ⊢
 clear h hnm hng hn1 hn2 hn3
 unfold tv at hIn ⊢
 go_enter Tryz.func43, Tryz.ntmps43
 go_upto_region 1 with (fail)
 obtain ⟨W, hW, ps, hbW⟩ := made_blk w #[.int .i64 9, .string nm, .slice A1 n1 c1, .bool ng, .slice A2 n2 c2, .slice A3 n3 c3] 28
 obtain ⟨g, hg⟩ : ∃ g, g = w.heap.size := ⟨_, rfl⟩
 have HB : Hid (Lib.IsBuilder TW TB B b bs W) := Lib.hid (hW ▸ isB_alloc hIs _)
 have HK : Hid (Lib.OthersKept TB (some b) w W) := Lib.hid (hW ▸ (Lib.OthersKept.refl TB (some b) w).alloc _)
 have hBW : B ≤ W.heap.size := Nat.le_trans hBw hbW.size
 have HBW := Lib.hid (hbW.mono hBw)
 have HI1 := Lib.hid (hIn.under hR (hbW.mono hBw))
 have HR := Lib.hid hR
 rw [← hW, ← hg]
 rw [← hg] at ps
 have hgb : g ≠ b := by have := below_IsB hIs; omega
 clear hW hbW hIs hBw hg hIn hR
 obtain ⟨x0, x1, x2, x3, x4, x5⟩ := ps.six
 go_upto_region 6 with (go_at_call 75; refine (level_9 nm A1 n1 c1 ng A2 n2 c2 A3 n3 c3 W).mono ?_; rintro e w1 ⟨rfl, hb1⟩; have pg1 : Blk w1 g 28 #[.int .i64 9, .string nm, .slice A1 n1 c1, .bool ng, .slice A2 n2 c2, .slice A3 n3 c3] := ok_below hb1 g _ ps (by simpa using hgb) (fun c fz e => by injection e with _ e _; exact absurd e (by decide)); have HB1 := Lib.hid (isB_below HB.out hb1); have HBW1 := Lib.hid (HBW.out.trans (hb1.mono hBW)); have HK1 := Lib.hid (HK.out.trans (ok_below hb1)); have hB1 : B ≤ w1.heap.size := Nat.le_trans hBW hb1.size; have HI2 := Lib.hid (HI1.out.under HR.out (hb1.mono hBW)); clear x0 x1 x2 x3 x4 x5 hb1; obtain ⟨x0, x1, x2, x3, x4, x5⟩ := pg1.six)
 go_wp2_with (go_at_call 80; refine (HA.out B b bs _ R _ HI2.out HR.out HB1.out hlen hB1).mono ?_; rintro e w2 ⟨rfl, h2, hb2, hk2⟩)
 go_end0
 exact ⟨rfl, h2, HBW1.out.trans hb2, HK1.out.trans hk2⟩
set_option maxHeartbeats 3200000 in
set_option maxRecDepth 100000 in
theorem body_10 (t : T) (hk : t.k = 10) (ha : AtomW t) (hl : ∀ last, bodyB last t = atomB t) : BodyW t := by
 intro B b bs least last w R v hle hnp h hR hIs hlen hBw
 rw [hl last] at hlen ⊢
 have HA := Lib.hid ha
 clear ha hl
 have d1 : decide ((6 : Int) < (least : Int)) = false := by simp; rw [hk] at hnp; have : ¬ (6 < least) := fun h => hnp (.inl h); omega
 clear hnp hle
 have hIn := h
 obtain ⟨A1, c1, A2, c2, A3, c3, rfl, _⟩ := h.form
 obtain ⟨nm, hnm⟩ : ∃ x, t.nm = x := ⟨_, rfl⟩
 obtain ⟨ng, hng⟩ : ∃ x, t.ng = x := ⟨_, rfl⟩
 obtain ⟨n1, hn1⟩ : ∃ x, t.ns.length = x := ⟨_, rfl⟩
 obtain ⟨n2, hn2⟩ : ∃ x, t.mg.length = x := ⟨_, rfl⟩
 obtain ⟨n3, hn3⟩ : ∃ x, t.ks.length = x := ⟨_, rfl⟩
 rw [hk, hnm, hng, hn1, hn2, hn3] at hIn ⊢
 clear h hnm hng hn1 hn2 hn3
 unfold tv at hIn ⊢
 go_enter Tryz.func43, Tryz.ntmps43
 go_upto_region 1 with (fail)
 obtain ⟨W, hW, ps, hbW⟩ := made_blk w #[.int .i64 10, .string nm, .slice A1 n1 c1, .bool ng, .slice A2 n2 c2, .slice A3 n3 c3] 28
 obtain ⟨g, hg⟩ : ∃ g, g = w.heap.size := ⟨_, rfl⟩
 have HB : Hid (Lib.IsBuilder TW TB B b bs W) := Lib.hid (hW ▸ isB_alloc hIs _)
 have HK : Hid (Lib.OthersKept TB (some b) w W) := Lib.hid (hW ▸ (Lib.OthersKept.refl TB (some b) w).alloc _)
 have hBW : B ≤ W.heap.size := Nat.le_trans hBw hbW.size
 have HBW := Lib.hid (hbW.mono hBw)
 have HI1 := Lib.hid (hIn.under hR (hbW.mono hBw))
 have HR := Lib.hid hR
 rw [← hW, ← hg]
 rw [← hg] at ps
 have hgb : g ≠ b := by have := below_IsB hIs; omega
 clear hW hbW hIs hBw hg hIn hR
 obtain ⟨x0, x1, x2, x3, x4, x5⟩ := ps.six
 go_upto_region 6 with (go_at_call 75; refine (level_10 nm A1 n1 c1 ng A2 n2 c2 A3 n3 c3 W).mono ?_; rintro e w1 ⟨rfl, hb1⟩; have pg1 : Blk w1 g 28 #[.int .i64 10, .string nm, .slice A1 n1 c1, .bool ng, .slice A2 n2 c2, .slice A3 n3 c3] := ok_below hb1 g _ ps (by simpa using hgb) (fun c fz e => by injection e with _ e _; exact absurd e (by decide)); have HB1 := Lib.hid (isB_below HB.out hb1); have HBW1 := Lib.hid (HBW.out.trans (hb1.mono hBW)); have HK1 := Lib.hid (HK.out.trans (ok_below hb1)); have hB1 : B ≤ w1.heap.size := Nat.le_trans hBW hb1.size; have HI2 := Lib.hid (HI1.out.under HR.out (hb1.mono hBW)); clear x0 x1 x2 x3 x4 x5 hb1; obtain ⟨x0, x1, x2, x3, x4, x5⟩ := pg1.six)
 go_wp2_with (go_at_call 80; refine (HA.out B b bs _ R _ HI2.out HR.out HB1.out hlen hB1).mono ?_; rintro e w2 ⟨rfl, h2, hb2, hk2⟩)
 go_end0
 exact ⟨rfl, h2, HBW1.out.trans hb2, HK1.out.trans hk2⟩
set_option maxHeartbeats 3200000 in
set_option maxRecDepth 100000 in
theorem body_11 (t : T) (hk : t.k = 11) (ha : AtomW t) (hl : ∀ last, bodyB last t = atomB t) : BodyW t := by
 intro B b bs least last w R v hle hnp h hR hIs hlen hBw
 rw [hl last] at hlen ⊢
 have HA := Lib.hid ha
 clear ha hl
 have d1 : decide ((6 : Int) < (least : Int)) = false := by simp; rw [hk] at hnp; have : ¬ (6 < least) := fun h => hnp (.inl h); omega
 clear hnp hle
 have hIn := h
 obtain ⟨A1, c1, A2, c2, A3, c3, rfl, _⟩ := h.form
 obtain ⟨nm, hnm⟩ : ∃ x, t.nm = x := ⟨_, rfl⟩
 obtain ⟨ng, hng⟩ : ∃ x, t.ng = x := ⟨_, rfl⟩
 obtain ⟨n1, hn1⟩ : ∃ x, t.ns.length = x := ⟨_, rfl⟩
 obtain ⟨n2, hn2⟩ : ∃ x, t.mg.length = x := ⟨_, rfl⟩
 obtain ⟨n3, hn3⟩ : ∃ x, t.ks.length = x := ⟨_, rfl⟩
 rw [hk, hnm, hng, hn1, hn2, hn3] at hIn ⊢
 clear h hnm hng hn1 hn2 hn3
 unfold tv at hIn ⊢
 go_enter Tryz.func43, Tryz.ntmps43
 go_upto_region 1 with (fail)
 obtain ⟨W, hW, ps, hbW⟩ := made_blk w #[.int .i64 11, .string nm, .slice A1 n1 c1, .bool ng, .slice A2 n2 c2, .slice A3 n3 c3] 28
 obtain ⟨g, hg⟩ : ∃ g, g = w.heap.size := ⟨_, rfl⟩
 have HB : Hid (Lib.IsBuilder TW TB B b bs W) := Lib.hid (hW ▸ isB_alloc hIs _)
 have HK : Hid (Lib.OthersKept TB (some b) w W) := Lib.hid (hW ▸ (Lib.OthersKept.refl TB (some b) w).alloc _)
 have hBW : B ≤ W.heap.size := Nat.le_trans hBw hbW.size
 have HBW := Lib.hid (hbW.mono hBw)
 have HI1 := Lib.hid (hIn.under hR (hbW.mono hBw))
 have HR := Lib.hid hR
 rw [← hW, ← hg]
 rw [← hg] at ps
 have hgb : g ≠ b := by have := below_IsB hIs; omega
 clear hW hbW hIs hBw hg hIn hR
 obtain ⟨x0, x1, x2, x3, x4, x5⟩ := ps.six
 go_upto_region 6 with (go_at_call 75; refine (level_11 nm A1 n1 c1 ng A2 n2 c2 A3 n3 c3 W).mono ?_; rintro e w1 ⟨rfl, hb1⟩; have pg1 : Blk w1 g 28 #[.int .i64 11, .string nm, .slice A1 n1 c1, .bool ng, .slice A2 n2 c2, .slice A3 n3 c3] := ok_below hb1 g _ ps (by simpa using hgb) (fun c fz e => by injection e with _ e _; exact absurd e (by decide)); have HB1 := Lib.hid (isB_below HB.out hb1); have HBW1 := Lib.hid (HBW.out.trans (hb1.mono hBW)); have HK1 := Lib.hid (HK.out.trans (ok_below hb1)); have hB1 : B ≤ w1.heap.size := Nat.le_trans hBW hb1.size; have HI2 := Lib.hid (HI1.out.under HR.out (hb1.mono hBW)); clear x0 x1 x2 x3 x4 x5 hb1; obtain ⟨x0, x1, x2, x3, x4, x5⟩ := pg1.six)
 go_wp2_with (go_at_call 80; refine (HA.out B b bs _ R _ HI2.out HR.out HB1.out hlen hB1).mono ?_; rintro e w2 ⟨rfl, h2, hb2, hk2⟩)
 go_end0
 exact ⟨rfl, h2, HBW1.out.trans hb2, HK1.out.trans hk2⟩
set_option maxHeartbeats 3200000 in
set_option maxRecDepth 100000 in
theorem body_12 (t : T) (hk : t.k = 12) (ha : AtomW t) (hl : ∀ last, bodyB last t = atomB t) : BodyW t := by
 intro B b bs least last w R v hle hnp h hR hIs hlen hBw
 rw [hl last] at hlen ⊢
 have HA := Lib.hid ha
 clear ha hl
 have d1 : decide ((6 : Int) < (least : Int)) = false := by simp; rw [hk] at hnp; have : ¬ (6 < least) := fun h => hnp (.inl h); omega
 clear hnp hle
 have hIn := h
 obtain ⟨A1, c1, A2, c2, A3, c3, rfl, _⟩ := h.form
 obtain ⟨nm, hnm⟩ : ∃ x, t.nm = x := ⟨_, rfl⟩
 obtain ⟨ng, hng⟩ : ∃ x, t.ng = x := ⟨_, rfl⟩
 obtain ⟨n1, hn1⟩ : ∃ x, t.ns.length = x := ⟨_, rfl⟩
 obtain ⟨n2, hn2⟩ : ∃ x, t.mg.length = x := ⟨_, rfl⟩
 obtain ⟨n3, hn3⟩ : ∃ x, t.ks.length = x := ⟨_, rfl⟩
 rw [hk, hnm, hng, hn1, hn2, hn3] at hIn ⊢
 clear h hnm hng hn1 hn2 hn3
 unfold tv at hIn ⊢
 go_enter Tryz.func43, Tryz.ntmps43
 go_upto_region 1 with (fail)
 obtain ⟨W, hW, ps, hbW⟩ := made_blk w #[.int .i64 12, .string nm, .slice A1 n1 c1, .bool ng, .slice A2 n2 c2, .slice A3 n3 c3] 28
 obtain ⟨g, hg⟩ : ∃ g, g = w.heap.size := ⟨_, rfl⟩
 have HB : Hid (Lib.IsBuilder TW TB B b bs W) := Lib.hid (hW ▸ isB_alloc hIs _)
 have HK : Hid (Lib.OthersKept TB (some b) w W) := Lib.hid (hW ▸ (Lib.OthersKept.refl TB (some b) w).alloc _)
 have hBW : B ≤ W.heap.size := Nat.le_trans hBw hbW.size
 have HBW := Lib.hid (hbW.mono hBw)
 have HI1 := Lib.hid (hIn.under hR (hbW.mono hBw))
 have HR := Lib.hid hR
 rw [← hW, ← hg]
 rw [← hg] at ps
 have hgb : g ≠ b := by have := below_IsB hIs; omega
 clear hW hbW hIs hBw hg hIn hR
 obtain ⟨x0, x1, x2, x3, x4, x5⟩ := ps.six
 go_upto_region 6 with (go_at_call 75; refine (level_12 nm A1 n1 c1 ng A2 n2 c2 A3 n3 c3 W).mono ?_; rintro e w1 ⟨rfl, hb1⟩; have pg1 : Blk w1 g 28 #[.int .i64 12, .string nm, .slice A1 n1 c1, .bool ng, .slice A2 n2 c2, .slice A3 n3 c3] := ok_below hb1 g _ ps (by simpa using hgb) (fun c fz e => by injection e with _ e _; exact absurd e (by decide)); have HB1 := Lib.hid (isB_below HB.out hb1); have HBW1 := Lib.hid (HBW.out.trans (hb1.mono hBW)); have HK1 := Lib.hid (HK.out.trans (ok_below hb1)); have hB1 : B ≤ w1.heap.size := Nat.le_trans hBW hb1.size; have HI2 := Lib.hid (HI1.out.under HR.out (hb1.mono hBW)); clear x0 x1 x2 x3 x4 x5 hb1; obtain ⟨x0, x1, x2, x3, x4, x5⟩ := pg1.six)
 go_wp2_with (go_at_call 80; refine (HA.out B b bs _ R _ HI2.out HR.out HB1.out hlen hB1).mono ?_; rintro e w2 ⟨rfl, h2, hb2, hk2⟩)
 go_end0
 exact ⟨rfl, h2, HBW1.out.trans hb2, HK1.out.trans hk2⟩
set_option maxHeartbeats 3200000 in
set_option maxRecDepth 100000 in
theorem body_13 (t : T) (hk : t.k = 13) (ha : AtomW t) (hl : ∀ last, bodyB last t = atomB t) : BodyW t := by
 intro B b bs least last w R v hle hnp h hR hIs hlen hBw
 rw [hl last] at hlen ⊢
 have HA := Lib.hid ha
 clear ha hl
 have d1 : decide ((6 : Int) < (least : Int)) = false := by simp; rw [hk] at hnp; have : ¬ (6 < least) := fun h => hnp (.inl h); omega
 clear hnp hle
 have hIn := h
 obtain ⟨A1, c1, A2, c2, A3, c3, rfl, _⟩ := h.form
 obtain ⟨nm, hnm⟩ : ∃ x, t.nm = x := ⟨_, rfl⟩
 obtain ⟨ng, hng⟩ : ∃ x, t.ng = x := ⟨_, rfl⟩
 obtain ⟨n1, hn1⟩ : ∃ x, t.ns.length = x := ⟨_, rfl⟩
 obtain ⟨n2, hn2⟩ : ∃ x, t.mg.length = x := ⟨_, rfl⟩
 obtain ⟨n3, hn3⟩ : ∃ x, t.ks.length = x := ⟨_, rfl⟩
 rw [hk, hnm, hng, hn1, hn2, hn3] at hIn ⊢
 clear h hnm hng hn1 hn2 hn3
 unfold tv at hIn ⊢
 go_enter Tryz.func43, Tryz.ntmps43
 go_upto_region 1 with (fail)
 obtain ⟨W, hW, ps, hbW⟩ := made_blk w #[.int .i64 13, .string nm, .slice A1 n1 c1, .bool ng, .slice A2 n2 c2, .slice A3 n3 c3] 28
 obtain ⟨g, hg⟩ : ∃ g, g = w.heap.size := ⟨_, rfl⟩
 have HB : Hid (Lib.IsBuilder TW TB B b bs W) := Lib.hid (hW ▸ isB_alloc hIs _)
 have HK : Hid (Lib.OthersKept TB (some b) w W) := Lib.hid (hW ▸ (Lib.OthersKept.refl TB (some b) w).alloc _)
 have hBW : B ≤ W.heap.size := Nat.le_trans hBw hbW.size
 have HBW := Lib.hid (hbW.mono hBw)
 have HI1 := Lib.hid (hIn.under hR (hbW.mono hBw))
 have HR := Lib.hid hR
 rw [← hW, ← hg]
 rw [← hg] at ps
 have hgb : g ≠ b := by have := below_IsB hIs; omega
 clear hW hbW hIs hBw hg hIn hR
 obtain ⟨x0, x1, x2, x3, x4, x5⟩ := ps.six
 go_upto_region 6 with (go_at_call 75; refine (level_13 nm A1 n1 c1 ng A2 n2 c2 A3 n3 c3 W).mono ?_; rintro e w1 ⟨rfl, hb1⟩; have pg1 : Blk w1 g 28 #[.int .i64 13, .string nm, .slice A1 n1 c1, .bool ng, .slice A2 n2 c2, .slice A3 n3 c3] := ok_below hb1 g _ ps (by simpa using hgb) (fun c fz e => by injection e with _ e _; exact absurd e (by decide)); have HB1 := Lib.hid (isB_below HB.out hb1); have HBW1 := Lib.hid (HBW.out.trans (hb1.mono hBW)); have HK1 := Lib.hid (HK.out.trans (ok_below hb1)); have hB1 : B ≤ w1.heap.size := Nat.le_trans hBW hb1.size; have HI2 := Lib.hid (HI1.out.under HR.out (hb1.mono hBW)); clear x0 x1 x2 x3 x4 x5 hb1; obtain ⟨x0, x1, x2, x3, x4, x5⟩ := pg1.six)
 go_wp2_with (go_at_call 80; refine (HA.out B b bs _ R _ HI2.out HR.out HB1.out hlen hB1).mono ?_; rintro e w2 ⟨rfl, h2, hb2, hk2⟩)
 go_end0
 exact ⟨rfl, h2, HBW1.out.trans hb2, HK1.out.trans hk2⟩
set_option maxHeartbeats 3200000 in
set_option maxRecDepth 100000 in
theorem body_14 (t : T) (hk : t.k = 14) (ha : AtomW t) (hl : ∀ last, bodyB last t = atomB t) : BodyW t := by
 intro B b bs least last w R v hle hnp h hR hIs hlen hBw
 rw [hl last] at hlen ⊢
 have HA := Lib.hid ha
 clear ha hl
 have d1 : decide ((6 : Int) < (least : Int)) = false := by simp; rw [hk] at hnp; have : ¬ (6 < least) := fun h => hnp (.inl h); omega
 clear hnp hle
 have hIn := h
 obtain ⟨A1, c1, A2, c2, A3, c3, rfl, _⟩ := h.form
 obtain ⟨nm, hnm⟩ : ∃ x, t.nm = x := ⟨_, rfl⟩
 obtain ⟨ng, hng⟩ : ∃ x, t.ng = x := ⟨_, rfl⟩
 obtain ⟨n1, hn1⟩ : ∃ x, t.ns.length = x := ⟨_, rfl⟩
 obtain ⟨n2, hn2⟩ : ∃ x, t.mg.length = x := ⟨_, rfl⟩
 obtain ⟨n3, hn3⟩ : ∃ x, t.ks.length = x := ⟨_, rfl⟩
 rw [hk, hnm, hng, hn1, hn2, hn3] at hIn ⊢
 clear h hnm hng hn1 hn2 hn3
 unfold tv at hIn ⊢
 go_enter Tryz.func43, Tryz.ntmps43
 go_upto_region 1 with (fail)
 obtain ⟨W, hW, ps, hbW⟩ := made_blk w #[.int .i64 14, .string nm, .slice A1 n1 c1, .bool ng, .slice A2 n2 c2, .slice A3 n3 c3] 28
 obtain ⟨g, hg⟩ : ∃ g, g = w.heap.size := ⟨_, rfl⟩
 have HB : Hid (Lib.IsBuilder TW TB B b bs W) := Lib.hid (hW ▸ isB_alloc hIs _)
 have HK : Hid (Lib.OthersKept TB (some b) w W) := Lib.hid (hW ▸ (Lib.OthersKept.refl TB (some b) w).alloc _)
 have hBW : B ≤ W.heap.size := Nat.le_trans hBw hbW.size
 have HBW := Lib.hid (hbW.mono hBw)
 have HI1 := Lib.hid (hIn.under hR (hbW.mono hBw))
 have HR := Lib.hid hR
 rw [← hW, ← hg]
 rw [← hg] at ps
 have hgb : g ≠ b := by have := below_IsB hIs; omega
 clear hW hbW hIs hBw hg hIn hR
 obtain ⟨x0, x1, x2, x3, x4, x5⟩ := ps.six
 go_upto_region 6 with (go_at_call 75; refine (level_14 nm A1 n1 c1 ng A2 n2 c2 A3 n3 c3 W).mono ?_; rintro e w1 ⟨rfl, hb1⟩; have pg1 : Blk w1 g 28 #[.int .i64 14, .string nm, .slice A1 n1 c1, .bool ng, .slice A2 n2 c2, .slice A3 n3 c3] := ok_below hb1 g _ ps (by simpa using hgb) (fun c fz e => by injection e with _ e _; exact absurd e (by decide)); have HB1 := Lib.hid (isB_below HB.out hb1); have HBW1 := Lib.hid (HBW.out.trans (hb1.mono hBW)); have HK1 := Lib.hid (HK.out.trans (ok_below hb1)); have hB1 : B ≤ w1.heap.size := Nat.le_trans hBW hb1.size; have HI2 := Lib.hid (HI1.out.under HR.out (hb1.mono hBW)); clear x0 x1 x2 x3 x4 x5 hb1; obtain ⟨x0, x1, x2, x3, x4, x5⟩ := pg1.six)
 go_wp2_with (go_at_call 80; refine (HA.out B b bs _ R _ HI2.out HR.out HB1.out hlen hB1).mono ?_; rintro e w2 ⟨rfl, h2, hb2, hk2⟩)
 go_end0
 exact ⟨rfl, h2, HBW1.out.trans hb2, HK1.out.trans hk2⟩
set_option maxHeartbeats 3200000 in
set_option maxRecDepth 100000 in
theorem body_15 (t : T) (hk : t.k = 15) (ha : AtomW t) (hl : ∀ last, bodyB last t = atomB t) : BodyW t := by
 intro B b bs least last w R v hle hnp h hR hIs hlen hBw
 rw [hl last] at hlen ⊢
 have HA := Lib.hid ha
 clear ha hl
 have d1 : decide ((6 : Int) < (least : Int)) = false := by simp; rw [hk] at hnp; have : ¬ (6 < least) := fun h => hnp (.inl h); omega
 clear hnp hle
 have hIn := h
 obtain ⟨A1, c1, A2, c2, A3, c3, rfl, _⟩ := h.form
 obtain ⟨nm, hnm⟩ : ∃ x, t.nm = x := ⟨_, rfl⟩
 obtain ⟨ng, hng⟩ : ∃ x, t.ng = x := ⟨_, rfl⟩
 obtain ⟨n1, hn1⟩ : ∃ x, t.ns.length = x := ⟨_, rfl⟩
 obtain ⟨n2, hn2⟩ : ∃ x, t.mg.length = x := ⟨_, rfl⟩
 obtain ⟨n3, hn3⟩ : ∃ x, t.ks.length = x := ⟨_, rfl⟩
 rw [hk, hnm, hng, hn1, hn2, hn3] at hIn ⊢
 clear h hnm hng hn1 hn2 hn3
 unfold tv at hIn ⊢
 go_enter Tryz.func43, Tryz.ntmps43
 go_upto_region 1 with (fail)
 obtain ⟨W, hW, ps, hbW⟩ := made_blk w #[.int .i64 15, .string nm, .slice A1 n1 c1, .bool ng, .slice A2 n2 c2, .slice A3 n3 c3] 28
 obtain ⟨g, hg⟩ : ∃ g, g = w.heap.size := ⟨_, rfl⟩
 have HB : Hid (Lib.IsBuilder TW TB B b bs W) := Lib.hid (hW ▸ isB_alloc hIs _)
 have HK : Hid (Lib.OthersKept TB (some b) w W) := Lib.hid (hW ▸ (Lib.OthersKept.refl TB (some b) w).alloc _)
 have hBW : B ≤ W.heap.size := Nat.le_trans hBw hbW.size
 have HBW := Lib.hid (hbW.mono hBw)
 have HI1 := Lib.hid (hIn.under hR (hbW.mono hBw))
 have HR := Lib.hid hR
 rw [← hW, ← hg]
 rw [← hg] at ps
 have hgb : g ≠ b := by have := below_IsB hIs; omega
 clear hW hbW hIs hBw hg hIn hR
 obtain ⟨x0, x1, x2, x3, x4, x5⟩ := ps.six
 go_upto_region 6 with (go_at_call 75; refine (level_15 nm A1 n1 c1 ng A2 n2 c2 A3 n3 c3 W).mono ?_; rintro e w1 ⟨rfl, hb1⟩; have pg1 : Blk w1 g 28 #[.int .i64 15, .string nm, .slice A1 n1 c1, .bool ng, .slice A2 n2 c2, .slice A3 n3 c3] := ok_below hb1 g _ ps (by simpa using hgb) (fun c fz e => by injection e with _ e _; exact absurd e (by decide)); have HB1 := Lib.hid (isB_below HB.out hb1); have HBW1 := Lib.hid (HBW.out.trans (hb1.mono hBW)); have HK1 := Lib.hid (HK.out.trans (ok_below hb1)); have hB1 : B ≤ w1.heap.size := Nat.le_trans hBW hb1.size; have HI2 := Lib.hid (HI1.out.under HR.out (hb1.mono hBW)); clear x0 x1 x2 x3 x4 x5 hb1; obtain ⟨x0, x1, x2, x3, x4, x5⟩ := pg1.six)
 go_wp2_with (go_at_call 80; refine (HA.out B b bs _ R _ HI2.out HR.out HB1.out hlen hB1).mono ?_; rintro e w2 ⟨rfl, h2, hb2, hk2⟩)
 go_end0
 exact ⟨rfl, h2, HBW1.out.trans hb2, HK1.out.trans hk2⟩
end
section
open Go.RowKit
open Go.Shelf
attribute [local go_sem] Oper.semAt_some
set_option maxHeartbeats 3200000 in
set_option maxRecDepth 100000 in
theorem body_16 (u : T) (ih : FormW u) : BodyW (P.nd 16 [u]) := by
 intro B b bs least last w R v hle hnp h hR hIs hlen hBw
 have e : bodyB last (P.nd 16 [u]) = [110, 111, 116, 32] ++ formB 5 last u := by
  unfold bodyB
  rw [P.body_not, P.bytes_cons, P.bytes_cons]
  rfl
 rw [e] at hlen ⊢
 simp only [List.length_append, List.length_cons, List.length_nil] at hlen
 have e2 : bs ++ Lib.byteCells ([110, 111, 116, 32] ++ formB 5 last u) = (bs ++ Lib.strCells ⟨#[110, 111, 116, 32]⟩) ++ Lib.byteCells (formB 5 last u) := by simp [Lib.byteCells, Lib.strCells]
 rw [e2]
 have hls : (⟨#[110, 111, 116, 32]⟩ : ByteArray).size = 4 := rfl
 have hl1 : bs.length + (⟨#[110, 111, 116, 32]⟩ : ByteArray).size ≤ 140737488355328 := by omega
 have hl2 : (bs ++ Lib.strCells ⟨#[110, 111, 116, 32]⟩).length + (formB 5 last u).length ≤ 140737488355328 := by rw [List.length_append, Lib.strCells_length]; omega
 have HIH := Lib.hid ih
 have d1 : decide ((5 : Int) < (least : Int)) = false := by simp; omega
 clear e e2 hnp hle ih hls
 rw [P.nd, T.In] at h
 obtain ⟨A1, c1, A2, c2, A3, c3, rfl, _, _, hc3, hk⟩ := h
 obtain ⟨kb, ko, rfl, hRk, hI⟩ := hk (by simp)
 rw [T.Ins] at hI
 obtain ⟨⟨v0, v1, v2, v3, v4, v5, h6, hIn⟩, _⟩ := hI
 have hkB := hR kb hRk
 have H6 := Lib.hid h6
 clear hk h6
 unfold tv
 simp only [List.length_nil, List.length_cons, Nat.zero_add]
 go_enter Tryz.func43, Tryz.ntmps43
 go_upto_region 1 with (fail)
 obtain ⟨W, hW, ps, hbW⟩ := made_blk w #[.int .i64 16, .string ⟨#[]⟩, .slice A1 0 c1, .bool false, .slice A2 0 c2, .slice (some ⟨kb, ko, none⟩) 1 c3] 28
 obtain ⟨g, hg⟩ : ∃ g, g = w.heap.size := ⟨_, rfl⟩
 have HB : Hid (Lib.IsBuilder TW TB B b bs W) := Lib.hid (hW ▸ isB_alloc hIs _)
 have HK : Hid (Lib.OthersKept TB (some b) w W) := Lib.hid (hW ▸ (Lib.OthersKept.refl TB (some b) w).alloc _)
 have hBW : B ≤ W.heap.size := Nat.le_trans hBw hbW.size
 have HBW := Lib.hid (hbW.mono hBw)
 have HI1 := Lib.hid (hIn.under hR (hbW.mono hBw))
 have HR := Lib.hid hR
 rw [← hW, ← hg]
 rw [← hg] at ps
 have hgb : g ≠ b := by have := below_IsB hIs; omega
 clear hW hbW hIs hBw hg hIn hR
 obtain ⟨x0, x1, x2, x3, x4, x5⟩ := ps.six
 go_upto_region 6 with (go_at_call 75; refine (level_16 ⟨#[]⟩ A1 0 c1 false A2 0 c2 (some ⟨kb, ko, none⟩) 1 c3 W).mono ?_; rintro e w1 ⟨rfl, hb1⟩; have pg1 : Blk w1 g 28 #[.int .i64 16, .string ⟨#[]⟩, .slice A1 0 c1, .bool false, .slice A2 0 c2, .slice (some ⟨kb, ko, none⟩) 1 c3] := ok_below hb1 g _ ps (by simpa using hgb) (fun c fz e => by injection e with _ e _; exact absurd e (by decide)); have HB1 := Lib.hid (isB_below HB.out hb1); have HBW1 := Lib.hid (HBW.out.trans (hb1.mono hBW)); have HK1 := Lib.hid (HK.out.trans (ok_below hb1)); have hB1 : B ≤ w1.heap.size := Nat.le_trans hBW hb1.size; have HI2 := Lib.hid (HI1.out.under HR.out (hb1.mono hBW)); clear x0 x1 x2 x3 x4 x5 hb1; obtain ⟨x0, x1, x2, x3, x4, x5⟩ := pg1.six)
 go_upto_region 18 with (go_at_call 78; refine (wstr_w B b bs ⟨#[110, 111, 116, 32]⟩ _ HB1.out hl1 hB1).mono ?_; rintro e w2 ⟨rfl, h2, hb2, hk2⟩)
 have pg2 : Blk w2 g 28 #[.int .i64 16, .string ⟨#[]⟩, .slice A1 0 c1, .bool false, .slice A2 0 c2, .slice (some ⟨kb, ko, none⟩) 1 c3] := hk2 g _ pg1 (by simpa using hgb) (fun c fz e => by injection e with _ e _; exact absurd e (by decide))
 have HBW2 := Lib.hid (HBW1.out.trans hb2)
 have HK2 := Lib.hid (HK1.out.trans hk2)
 have hB2 : B ≤ w2.heap.size := Nat.le_trans hB1 hb2.size
 have HI3 := Lib.hid (HI2.out.under HR.out hb2)
 have H2 := Lib.hid h2
 clear x0 x1 x2 x3 x4 x5 h2 hb2 hk2 ps pg1
 obtain ⟨x0, x1, x2, x3, x4, x5⟩ := pg2.six
 obtain ⟨y0, y1, y2, y3, y4, y5⟩ := H6.out.keep (fun p v hp hc => (HBW2.out.cell (by rw [hp]; exact hkB)).trans hc)
 go_wp2_with (go_at_call 43; refine (HIH.out B b (bs ++ Lib.strCells ⟨#[110, 111, 116, 32]⟩) 5 last _ R _ (by decide) HI3.out HR.out (.inr H2.out) hl2 hB2).mono ?_; rintro e w3 ⟨rfl, h3, hb3, hk3⟩)
 go_end0
 exact ⟨rfl, h3, HBW2.out.trans hb3, HK2.out.trans hk3⟩
end
section
open Go.RowKit
open Go.Shelf
attribute [local go_sem] Oper.semAt_some
set_option maxHeartbeats 3200000 in
set_option maxRecDepth 100000 in
theorem body_17 (t : T) (hk : t.k = 17) (l : List T) (hl : t.ks = l) (hf : ∀ k ∈ l, FormW k) (h0 : 0 < l.length) (hbk : l.length ≤ 1048576) (hb : ∀ last, bodyB last t = restB ⟨#[97, 110, 100]⟩ 5 5 last l 0) : BodyW t := by
 intro B b bs least last w R v hle hnp h hR hIs hlen hBw
 rw [hb last] at hlen ⊢
 obtain ⟨TOT, hT⟩ : ∃ x, restB ⟨#[97, 110, 100]⟩ 5 5 last l 0 = x := ⟨_, rfl⟩
 rw [hT] at hlen ⊢
 have HF := Lib.hid hf
 have HL := Lib.hid hl
 have HT := Lib.hid hT
 clear hf hl hT hb
 have d1 : decide ((4 : Int) < (least : Int)) = false := by simp; rw [hk] at hnp; have : ¬ (4 < least) := fun h => hnp (.inl h); omega
 clear hnp hle
 have hIn := h
 obtain ⟨A1, c1, A2, c2, A3, c3, rfl, _⟩ := h.form
 obtain ⟨nm, hnm⟩ : ∃ x, t.nm = x := ⟨_, rfl⟩
 obtain ⟨ng, hng⟩ : ∃ x, t.ng = x := ⟨_, rfl⟩
 obtain ⟨n1, hn1⟩ : ∃ x, t.ns.length = x := ⟨_, rfl⟩
 obtain ⟨n2, hn2⟩ : ∃ x, t.mg.length = x := ⟨_, rfl⟩
 obtain ⟨n3, hn3⟩ : ∃ x, t.ks.length = x := ⟨_, rfl⟩
 rw [hk, hnm, hng, hn1, hn2, hn3] at hIn ⊢
 clear h hnm hng hn1 hn2 hn3
 unfold tv at hIn ⊢
 go_enter Tryz.func43, Tryz.ntmps43
 go_upto_region 1 with (fail)
 obtain ⟨W, hW, ps, hbW⟩ := made_blk w #[.int .i64 17, .string nm, .slice A1 n1 c1, .bool ng, .slice A2 n2 c2, .slice A3 n3 c3] 28
 obtain ⟨g, hg⟩ : ∃ g, g = w.heap.size := ⟨_, rfl⟩
 have HB : Hid (Lib.IsBuilder TW TB B b bs W) := Lib.hid (hW ▸ isB_alloc hIs _)
 have HK : Hid (Lib.OthersKept TB (some b) w W) := Lib.hid (hW ▸ (Lib.OthersKept.refl TB (some b) w).alloc _)
 have hBW : B ≤ W.heap.size := Nat.le_trans hBw hbW.size
 have HBW := Lib.hid (hbW.mono hBw)
 have HI1 := Lib.hid (hIn.under hR (hbW.mono hBw))
 have HR := Lib.hid hR
 rw [← hW, ← hg]
 rw [← hg] at ps
 have hgb : g ≠ b := by have := below_IsB hIs; omega
 clear hW hbW hIs hBw hg hIn hR
 obtain ⟨x0, x1, x2, x3, x4, x5⟩ := ps.six
 go_upto_region 6 with (go_at_call 75; refine (level_17 nm A1 n1 c1 ng A2 n2 c2 A3 n3 c3 W).mono ?_; rintro e w1 ⟨rfl, hb1⟩; have pg1 : Blk w1 g 28 #[.int .i64 17, .string nm, .slice A1 n1 c1, .bool ng, .slice A2 n2 c2, .slice A3 n3 c3] := ok_below hb1 g _ ps (by simpa using hgb) (fun c fz e => by injection e with _ e _; exact absurd e (by decide)); have HB1 := Lib.hid (isB_below HB.out hb1); have HBW1 := Lib.hid (HBW.out.trans (hb1.mono hBW)); have HK1 := Lib.hid (HK.out.trans (ok_below hb1)); have hB1 : B ≤ w1.heap.size := Nat.le_trans hBW hb1.size; have HI2 := Lib.hid (HI1.out.under HR.out (hb1.mono hBW)); clear x0 x1 x2 x3 x4 x5 hb1; obtain ⟨x0, x1, x2, x3, x4, x5⟩ := pg1.six)
 go_wp2_with (go_at_call 77; refine (row_w t l HL.out HF.out h0 hbk ⟨#[97, 110, 100]⟩ ⟨#[32, 97, 110, 100, 32]⟩ rfl 5 5 (by decide) (by decide) last B b bs _ R _ HI2.out HR.out HB1.out TOT HT.out hlen hB1).mono ?_; rintro e w2 ⟨rfl, h2, hb2, hk2⟩)
 go_end0
 exact ⟨rfl, h2, HBW1.out.trans hb2, HK1.out.trans hk2⟩
set_option maxHeartbeats 3200000 in
set_option maxRecDepth 100000 in
theorem body_18 (t : T) (hk : t.k = 18) (l : List T) (hl : t.ks = l) (hf : ∀ k ∈ l, FormW k) (h0 : 0 < l.length) (hbk : l.length ≤ 1048576) (hb : ∀ last, bodyB last t = restB ⟨#[111, 114]⟩ 4 4 last l 0) : BodyW t := by
 intro B b bs least last w R v hle hnp h hR hIs hlen hBw
 rw [hb last] at hlen ⊢
 obtain ⟨TOT, hT⟩ : ∃ x, restB ⟨#[111, 114]⟩ 4 4 last l 0 = x := ⟨_, rfl⟩
 rw [hT] at hlen ⊢
 have HF := Lib.hid hf
 have HL := Lib.hid hl
 have HT := Lib.hid hT
 clear hf hl hT hb
 have d1 : decide ((3 : Int) < (least : Int)) = false := by simp; rw [hk] at hnp; have : ¬ (3 < least) := fun h => hnp (.inl h); omega
 clear hnp hle
 have hIn := h
 obtain ⟨A1, c1, A2, c2, A3, c3, rfl, _⟩ := h.form
 obtain ⟨nm, hnm⟩ : ∃ x, t.nm = x := ⟨_, rfl⟩
 obtain ⟨ng, hng⟩ : ∃ x, t.ng = x := ⟨_, rfl⟩
 obtain ⟨n1, hn1⟩ : ∃ x, t.ns.length = x := ⟨_, rfl⟩
 obtain ⟨n2, hn2⟩ : ∃ x, t.mg.length = x := ⟨_, rfl⟩
 obtain ⟨n3, hn3⟩ : ∃ x, t.ks.length = x := ⟨_, rfl⟩
 rw [hk, hnm, hng, hn1, hn2, hn3] at hIn ⊢
 clear h hnm hng hn1 hn2 hn3
 unfold tv at hIn ⊢
 go_enter Tryz.func43, Tryz.ntmps43
 go_upto_region 1 with (fail)
 obtain ⟨W, hW, ps, hbW⟩ := made_blk w #[.int .i64 18, .string nm, .slice A1 n1 c1, .bool ng, .slice A2 n2 c2, .slice A3 n3 c3] 28
 obtain ⟨g, hg⟩ : ∃ g, g = w.heap.size := ⟨_, rfl⟩
 have HB : Hid (Lib.IsBuilder TW TB B b bs W) := Lib.hid (hW ▸ isB_alloc hIs _)
 have HK : Hid (Lib.OthersKept TB (some b) w W) := Lib.hid (hW ▸ (Lib.OthersKept.refl TB (some b) w).alloc _)
 have hBW : B ≤ W.heap.size := Nat.le_trans hBw hbW.size
 have HBW := Lib.hid (hbW.mono hBw)
 have HI1 := Lib.hid (hIn.under hR (hbW.mono hBw))
 have HR := Lib.hid hR
 rw [← hW, ← hg]
 rw [← hg] at ps
 have hgb : g ≠ b := by have := below_IsB hIs; omega
 clear hW hbW hIs hBw hg hIn hR
 obtain ⟨x0, x1, x2, x3, x4, x5⟩ := ps.six
 go_upto_region 6 with (go_at_call 75; refine (level_18 nm A1 n1 c1 ng A2 n2 c2 A3 n3 c3 W).mono ?_; rintro e w1 ⟨rfl, hb1⟩; have pg1 : Blk w1 g 28 #[.int .i64 18, .string nm, .slice A1 n1 c1, .bool ng, .slice A2 n2 c2, .slice A3 n3 c3] := ok_below hb1 g _ ps (by simpa using hgb) (fun c fz e => by injection e with _ e _; exact absurd e (by decide)); have HB1 := Lib.hid (isB_below HB.out hb1); have HBW1 := Lib.hid (HBW.out.trans (hb1.mono hBW)); have HK1 := Lib.hid (HK.out.trans (ok_below hb1)); have hB1 : B ≤ w1.heap.size := Nat.le_trans hBW hb1.size; have HI2 := Lib.hid (HI1.out.under HR.out (hb1.mono hBW)); clear x0 x1 x2 x3 x4 x5 hb1; obtain ⟨x0, x1, x2, x3, x4, x5⟩ := pg1.six)
 go_wp2_with (go_at_call 77; refine (row_w t l HL.out HF.out h0 hbk ⟨#[111, 114]⟩ ⟨#[32, 111, 114, 32]⟩ rfl 4 4 (by decide) (by decide) last B b bs _ R _ HI2.out HR.out HB1.out TOT HT.out hlen hB1).mono ?_; rintro e w2 ⟨rfl, h2, hb2, hk2⟩)
 go_end0
 exact ⟨rfl, h2, HBW1.out.trans hb2, HK1.out.trans hk2⟩
set_option maxHeartbeats 3200000 in
set_option maxRecDepth 100000 in
theorem body_19 (t : T) (hk : t.k = 19) (l : List T) (hl : t.ks = l) (hf : ∀ k ∈ l, FormW k) (h0 : 0 < l.length) (hbk : l.length ≤ 1048576) (hb : ∀ last, bodyB last t = restB ⟨#[105, 109, 112, 108, 105, 101, 115]⟩ 3 2 last l 0) : BodyW t := by
 intro B b bs least last w R v hle hnp h hR hIs hlen hBw
 rw [hb last] at hlen ⊢
 obtain ⟨TOT, hT⟩ : ∃ x, restB ⟨#[105, 109, 112, 108, 105, 101, 115]⟩ 3 2 last l 0 = x := ⟨_, rfl⟩
 rw [hT] at hlen ⊢
 have HF := Lib.hid hf
 have HL := Lib.hid hl
 have HT := Lib.hid hT
 clear hf hl hT hb
 have d1 : decide ((2 : Int) < (least : Int)) = false := by simp; rw [hk] at hnp; have : ¬ (2 < least) := fun h => hnp (.inl h); omega
 clear hnp hle
 have hIn := h
 obtain ⟨A1, c1, A2, c2, A3, c3, rfl, _⟩ := h.form
 obtain ⟨nm, hnm⟩ : ∃ x, t.nm = x := ⟨_, rfl⟩
 obtain ⟨ng, hng⟩ : ∃ x, t.ng = x := ⟨_, rfl⟩
 obtain ⟨n1, hn1⟩ : ∃ x, t.ns.length = x := ⟨_, rfl⟩
 obtain ⟨n2, hn2⟩ : ∃ x, t.mg.length = x := ⟨_, rfl⟩
 obtain ⟨n3, hn3⟩ : ∃ x, t.ks.length = x := ⟨_, rfl⟩
 rw [hk, hnm, hng, hn1, hn2, hn3] at hIn ⊢
 clear h hnm hng hn1 hn2 hn3
 unfold tv at hIn ⊢
 go_enter Tryz.func43, Tryz.ntmps43
 go_upto_region 1 with (fail)
 obtain ⟨W, hW, ps, hbW⟩ := made_blk w #[.int .i64 19, .string nm, .slice A1 n1 c1, .bool ng, .slice A2 n2 c2, .slice A3 n3 c3] 28
 obtain ⟨g, hg⟩ : ∃ g, g = w.heap.size := ⟨_, rfl⟩
 have HB : Hid (Lib.IsBuilder TW TB B b bs W) := Lib.hid (hW ▸ isB_alloc hIs _)
 have HK : Hid (Lib.OthersKept TB (some b) w W) := Lib.hid (hW ▸ (Lib.OthersKept.refl TB (some b) w).alloc _)
 have hBW : B ≤ W.heap.size := Nat.le_trans hBw hbW.size
 have HBW := Lib.hid (hbW.mono hBw)
 have HI1 := Lib.hid (hIn.under hR (hbW.mono hBw))
 have HR := Lib.hid hR
 rw [← hW, ← hg]
 rw [← hg] at ps
 have hgb : g ≠ b := by have := below_IsB hIs; omega
 clear hW hbW hIs hBw hg hIn hR
 obtain ⟨x0, x1, x2, x3, x4, x5⟩ := ps.six
 go_upto_region 6 with (go_at_call 75; refine (level_19 nm A1 n1 c1 ng A2 n2 c2 A3 n3 c3 W).mono ?_; rintro e w1 ⟨rfl, hb1⟩; have pg1 : Blk w1 g 28 #[.int .i64 19, .string nm, .slice A1 n1 c1, .bool ng, .slice A2 n2 c2, .slice A3 n3 c3] := ok_below hb1 g _ ps (by simpa using hgb) (fun c fz e => by injection e with _ e _; exact absurd e (by decide)); have HB1 := Lib.hid (isB_below HB.out hb1); have HBW1 := Lib.hid (HBW.out.trans (hb1.mono hBW)); have HK1 := Lib.hid (HK.out.trans (ok_below hb1)); have hB1 : B ≤ w1.heap.size := Nat.le_trans hBW hb1.size; have HI2 := Lib.hid (HI1.out.under HR.out (hb1.mono hBW)); clear x0 x1 x2 x3 x4 x5 hb1; obtain ⟨x0, x1, x2, x3, x4, x5⟩ := pg1.six)
 go_wp2_with (go_at_call 77; refine (row_w t l HL.out HF.out h0 hbk ⟨#[105, 109, 112, 108, 105, 101, 115]⟩ ⟨#[32, 105, 109, 112, 108, 105, 101, 115, 32]⟩ rfl 3 2 (by decide) (by decide) last B b bs _ R _ HI2.out HR.out HB1.out TOT HT.out hlen hB1).mono ?_; rintro e w2 ⟨rfl, h2, hb2, hk2⟩)
 go_end0
 exact ⟨rfl, h2, HBW1.out.trans hb2, HK1.out.trans hk2⟩
set_option maxHeartbeats 3200000 in
set_option maxRecDepth 100000 in
theorem body_20 (t : T) (hk : t.k = 20) (l : List T) (hl : t.ks = l) (hf : ∀ k ∈ l, FormW k) (h0 : 0 < l.length) (hbk : l.length ≤ 1048576) (hb : ∀ last, bodyB last t = restB ⟨#[105, 102, 102]⟩ 1 2 last l 0) : BodyW t := by
 intro B b bs least last w R v hle hnp h hR hIs hlen hBw
 rw [hb last] at hlen ⊢
 obtain ⟨TOT, hT⟩ : ∃ x, restB ⟨#[105, 102, 102]⟩ 1 2 last l 0 = x := ⟨_, rfl⟩
 rw [hT] at hlen ⊢
 have HF := Lib.hid hf
 have HL := Lib.hid hl
 have HT := Lib.hid hT
 clear hf hl hT hb
 have d1 : decide ((1 : Int) < (least : Int)) = false := by simp; rw [hk] at hnp; have : ¬ (1 < least) := fun h => hnp (.inl h); omega
 clear hnp hle
 have hIn := h
 obtain ⟨A1, c1, A2, c2, A3, c3, rfl, _⟩ := h.form
 obtain ⟨nm, hnm⟩ : ∃ x, t.nm = x := ⟨_, rfl⟩
 obtain ⟨ng, hng⟩ : ∃ x, t.ng = x := ⟨_, rfl⟩
 obtain ⟨n1, hn1⟩ : ∃ x, t.ns.length = x := ⟨_, rfl⟩
 obtain ⟨n2, hn2⟩ : ∃ x, t.mg.length = x := ⟨_, rfl⟩
 obtain ⟨n3, hn3⟩ : ∃ x, t.ks.length = x := ⟨_, rfl⟩
 rw [hk, hnm, hng, hn1, hn2, hn3] at hIn ⊢
 clear h hnm hng hn1 hn2 hn3
 unfold tv at hIn ⊢
 go_enter Tryz.func43, Tryz.ntmps43
 go_upto_region 1 with (fail)
 obtain ⟨W, hW, ps, hbW⟩ := made_blk w #[.int .i64 20, .string nm, .slice A1 n1 c1, .bool ng, .slice A2 n2 c2, .slice A3 n3 c3] 28
 obtain ⟨g, hg⟩ : ∃ g, g = w.heap.size := ⟨_, rfl⟩
 have HB : Hid (Lib.IsBuilder TW TB B b bs W) := Lib.hid (hW ▸ isB_alloc hIs _)
 have HK : Hid (Lib.OthersKept TB (some b) w W) := Lib.hid (hW ▸ (Lib.OthersKept.refl TB (some b) w).alloc _)
 have hBW : B ≤ W.heap.size := Nat.le_trans hBw hbW.size
 have HBW := Lib.hid (hbW.mono hBw)
 have HI1 := Lib.hid (hIn.under hR (hbW.mono hBw))
 have HR := Lib.hid hR
 rw [← hW, ← hg]
 rw [← hg] at ps
 have hgb : g ≠ b := by have := below_IsB hIs; omega
 clear hW hbW hIs hBw hg hIn hR
 obtain ⟨x0, x1, x2, x3, x4, x5⟩ := ps.six
 go_upto_region 6 with (go_at_call 75; refine (level_20 nm A1 n1 c1 ng A2 n2 c2 A3 n3 c3 W).mono ?_; rintro e w1 ⟨rfl, hb1⟩; have pg1 : Blk w1 g 28 #[.int .i64 20, .string nm, .slice A1 n1 c1, .bool ng, .slice A2 n2 c2, .slice A3 n3 c3] := ok_below hb1 g _ ps (by simpa using hgb) (fun c fz e => by injection e with _ e _; exact absurd e (by decide)); have HB1 := Lib.hid (isB_below HB.out hb1); have HBW1 := Lib.hid (HBW.out.trans (hb1.mono hBW)); have HK1 := Lib.hid (HK.out.trans (ok_below hb1)); have hB1 : B ≤ w1.heap.size := Nat.le_trans hBW hb1.size; have HI2 := Lib.hid (HI1.out.under HR.out (hb1.mono hBW)); clear x0 x1 x2 x3 x4 x5 hb1; obtain ⟨x0, x1, x2, x3, x4, x5⟩ := pg1.six)
 go_wp2_with (go_at_call 77; refine (row_w t l HL.out HF.out h0 hbk ⟨#[105, 102, 102]⟩ ⟨#[32, 105, 102, 102, 32]⟩ rfl 1 2 (by decide) (by decide) last B b bs _ R _ HI2.out HR.out HB1.out TOT HT.out hlen hB1).mono ?_; rintro e w2 ⟨rfl, h2, hb2, hk2⟩)
 go_end0
 exact ⟨rfl, h2, HBW1.out.trans hb2, HK1.out.trans hk2⟩
end
section
open Go.RowKit
open Go.Shelf
theorem form_plain (t : T) (hl : 5 ≤ P.level t.k) (hb : P.binds t.k = false) (hw : BodyW t) : FormW t := by
 intro B b bs least last w R v hle h hR hIs hlen hBw
 have hc : ¬ (P.level t.k < least ∨ (P.binds t.k = true ∧ last = false)) := by
  rintro (h1 | h1)
  · omega
  · rw [hb] at h1; exact absurd h1.1 (by decide)
 rw [formB_body hc] at hlen ⊢
 exact hw B b bs least last w R v hle hc h hR hIs hlen hBw
theorem bulk_mem : ∀ {l : List T} {k : T}, k ∈ l → k.bulk ≤ T.bulks l
 | [], _, h => by cases h
 | t :: r, k, h => by
  rw [T.bulks]
  rcases List.mem_cons.1 h with rfl | h
  · omega
  · have := bulk_mem h
    omega
theorem form_17 (t : T) (hk : t.k = 17) (hw : BodyW t) : FormW t := by
 intro B b bs least last w R v hle h hR hIs hlen hBw
 by_cases hc : P.level t.k < least ∨ (P.binds t.k = true ∧ last = false)
 ·
  rw [formB_par hc] at hlen ⊢
  simp only [List.length_append, List.length_cons, List.length_nil] at hlen
  have e : bs ++ Lib.byteCells (40 :: (bodyB true t ++ [41])) = ((bs ++ [Value.int .u8 40]) ++ Lib.byteCells (bodyB true t)) ++ [Value.int .u8 41] := by simp [Lib.byteCells]
  rw [e]
  have hl : 4 < least := by
   rcases hc with hc | hc
   · rw [hk] at hc; exact hc
   · rw [hk] at hc; exact absurd hc.1 (by decide)
  exact form_par_17 t hk hw B b bs least hl last w R v h hR hIs (by omega) hBw
 · rw [formB_body hc] at hlen ⊢
   exact hw B b bs least last w R v hle hc h hR hIs hlen hBw
theorem form_18 (t : T) (hk : t.k = 18) (hw : BodyW t) : FormW t := by
 intro B b bs least last w R v hle h hR hIs hlen hBw
 by_cases hc : P.level t.k < least ∨ (P.binds t.k = true ∧ last = false)
 ·
  rw [formB_par hc] at hlen ⊢
  simp only [List.length_append, List.length_cons, List.length_nil] at hlen
  have e : bs ++ Lib.byteCells (40 :: (bodyB true t ++ [41])) = ((bs ++ [Value.int .u8 40]) ++ Lib.byteCells (bodyB true t)) ++ [Value.int .u8 41] := by simp [Lib.byteCells]
  rw [e]
  have hl : 3 < least := by
   rcases hc with hc | hc
   · rw [hk] at hc; exact hc
   · rw [hk] at hc; exact absurd hc.1 (by decide)
  exact form_par_18 t hk hw B b bs least hl last w R v h hR hIs (by omega) hBw
 · rw [formB_body hc] at hlen ⊢
   exact hw B b bs least last w R v hle hc h hR hIs hlen hBw
theorem form_19 (t : T) (hk : t.k = 19) (hw : BodyW t) : FormW t := by
 intro B b bs least last w R v hle h hR hIs hlen hBw
 by_cases hc : P.level t.k < least ∨ (P.binds t.k = true ∧ last = false)
 ·
  rw [formB_par hc] at hlen ⊢
  simp only [List.length_append, List.length_cons, List.length_nil] at hlen
  have e : bs ++ Lib.byteCells (40 :: (bodyB true t ++ [41])) = ((bs ++ [Value.int .u8 40]) ++ Lib.byteCells (bodyB true t)) ++ [Value.int .u8 41] := by simp [Lib.byteCells]
  rw [e]
  have hl : 2 < least := by
   rcases hc with hc | hc
   · rw [hk] at hc; exact hc
   · rw [hk] at hc; exact absurd hc.1 (by decide)
  exact form_par_19 t hk hw B b bs least hl last w R v h hR hIs (by omega) hBw
 · rw [formB_body hc] at hlen ⊢
   exact hw B b bs least last w R v hle hc h hR hIs hlen hBw
theorem form_20 (t : T) (hk : t.k = 20) (hw : BodyW t) : FormW t := by
 intro B b bs least last w R v hle h hR hIs hlen hBw
 by_cases hc : P.level t.k < least ∨ (P.binds t.k = true ∧ last = false)
 ·
  rw [formB_par hc] at hlen ⊢
  simp only [List.length_append, List.length_cons, List.length_nil] at hlen
  have e : bs ++ Lib.byteCells (40 :: (bodyB true t ++ [41])) = ((bs ++ [Value.int .u8 40]) ++ Lib.byteCells (bodyB true t)) ++ [Value.int .u8 41] := by simp [Lib.byteCells]
  rw [e]
  have hl : 1 < least := by
   rcases hc with hc | hc
   · rw [hk] at hc; exact hc
   · rw [hk] at hc; exact absurd hc.1 (by decide)
  exact form_par_20 t hk hw B b bs least hl last w R v h hR hIs (by omega) hBw
 · rw [formB_body hc] at hlen ⊢
   exact hw B b bs least last w R v hle hc h hR hIs hlen hBw
theorem form_21 (t : T) (hk : t.k = 21) (hw : BodyW t) : FormW t := by
 intro B b bs least last w R v hle h hR hIs hlen hBw
 by_cases hc : P.level t.k < least ∨ (P.binds t.k = true ∧ last = false)
 ·
  rw [formB_par hc] at hlen ⊢
  simp only [List.length_append, List.length_cons, List.length_nil] at hlen
  have e : bs ++ Lib.byteCells (40 :: (bodyB true t ++ [41])) = ((bs ++ [Value.int .u8 40]) ++ Lib.byteCells (bodyB true t)) ++ [Value.int .u8 41] := by simp [Lib.byteCells]
  rw [e]
  have hl : last = false := by
   rcases hc with hc | hc
   · rw [hk] at hc; have : P.level 21 = 5 := rfl; omega
   · exact hc.2
  subst hl
  exact form_par_21 t hk hw B b bs least hle w R v h hR hIs (by omega) hBw
 · rw [formB_body hc] at hlen ⊢
   exact hw B b bs least last w R v hle hc h hR hIs hlen hBw
theorem form_22 (t : T) (hk : t.k = 22) (hw : BodyW t) : FormW t := by
 intro B b bs least last w R v hle h hR hIs hlen hBw
 by_cases hc : P.level t.k < least ∨ (P.binds t.k = true ∧ last = false)
 ·
  rw [formB_par hc] at hlen ⊢
  simp only [List.length_append, List.length_cons, List.length_nil] at hlen
  have e : bs ++ Lib.byteCells (40 :: (bodyB true t ++ [41])) = ((bs ++ [Value.int .u8 40]) ++ Lib.byteCells (bodyB true t)) ++ [Value.int .u8 41] := by simp [Lib.byteCells]
  rw [e]
  have hl : last = false := by
   rcases hc with hc | hc
   · rw [hk] at hc; have : P.level 22 = 5 := rfl; omega
   · exact hc.2
  subst hl
  exact form_par_22 t hk hw B b bs least hle w R v h hR hIs (by omega) hBw
 · rw [formB_body hc] at hlen ⊢
   exact hw B b bs least last w R v hle hc h hR hIs hlen hBw
theorem form_all {b : Bool} {t : T} (h : P.Wf b t) : b = true → t.bulk ≤ 1048576 → FormW t := by
 induction h with
 | num m hm => intro h; cases h
 | var s hs => intro h; cases h
 | neg t ht ih => intro h; cases h
 | add t u ht hu iht ihu => intro h; cases h
 | sub t u ht hu iht ihu => intro h; cases h
 | mul m hm t ht ih => intro h; cases h
 | tt => exact fun _ _ => form_plain _ (by decide) rfl (body_7 _ rfl atom_true (fun _ => rfl))
 | ff => exact fun _ _ => form_plain _ (by decide) rfl (body_8 _ rfl atom_false (fun _ => rfl))
 | cmp k hk t u ht hu iht ihu =>
  intro _ hbk
  have hb : t.bulk ≤ 1048576 ∧ u.bulk ≤ 1048576 := by rw [P.nd, P.bulk_no, P.bulks_cons, P.bulks_one] at hbk; omega
  have ha := atom_cmp k hk t u (term_all ht rfl hb.1) (term_all hu rfl hb.2)
  have hl : ∀ last, bodyB last (P.nd k [t, u]) = atomB (P.nd k [t, u]) := fun last => by
   unfold bodyB atomB
   rw [P.body_cmp hk, P.body_cmp hk]
  have : k = 9 ∨ k = 10 ∨ k = 11 ∨ k = 12 ∨ k = 13 ∨ k = 14 := by omega
  rcases this with rfl | rfl | rfl | rfl | rfl | rfl
  · exact form_plain _ (show 5 ≤ 6 by decide) rfl (body_9 _ rfl ha hl)
  · exact form_plain _ (show 5 ≤ 6 by decide) rfl (body_10 _ rfl ha hl)
  · exact form_plain _ (show 5 ≤ 6 by decide) rfl (body_11 _ rfl ha hl)
  · exact form_plain _ (show 5 ≤ 6 by decide) rfl (body_12 _ rfl ha hl)
  · exact form_plain _ (show 5 ≤ 6 by decide) rfl (body_13 _ rfl ha hl)
  · exact form_plain _ (show 5 ≤ 6 by decide) rfl (body_14 _ rfl ha hl)
 | div m hm h0 t ht ih =>
  intro _ hbk
  have hb : t.bulk ≤ 1048576 ∧ m.length ≤ 1048576 := by rw [P.bulk_no, P.bulks_one] at hbk; omega
  refine form_plain _ (show 5 ≤ 6 by decide) rfl (body_15 _ rfl (atom_div m (by omega) t (term_all ht rfl hb.1)) (fun last => ?_))
  unfold bodyB atomB
  rw [P.body_div, P.body_div]
 | not t ht ih =>
  intro _ hbk
  exact form_plain _ (show 5 ≤ 5 by decide) rfl (body_16 t (ih rfl (by rw [P.nd, P.bulk_no, P.bulks_one] at hbk; omega)))
 | and t u ks ht hu hks iht ihu ihks =>
  intro _ hbk
  have hp := T.bulk_pos t
  have hp2 := T.bulk_pos u
  have hb : t.bulk ≤ 1048576 ∧ u.bulk ≤ 1048576 ∧ T.bulks ks ≤ 1048573 := by rw [P.nd, P.bulk_no, P.bulks_cons, P.bulks_cons] at hbk; omega
  refine form_17 _ rfl (body_17 _ rfl (t :: u :: ks) rfl (fun k hk => ?_) (by simp) (by have := T.len_bulks ks; simp only [List.length_cons]; omega) (fun last => ?_))
  · rcases List.mem_cons.1 hk with rfl | hk
    · exact iht rfl hb.1
    rcases List.mem_cons.1 hk with rfl | hk
    · exact ihu rfl hb.2.1
    · exact ihks k hk rfl (Nat.le_trans (bulk_mem hk) (Nat.le_trans hb.2.2 (by decide)))
  · unfold bodyB
    rw [P.body_and]
    simp only [P.bytes_append]
    rfl
 | or t u ks ht hu hks iht ihu ihks =>
  intro _ hbk
  have hp := T.bulk_pos t
  have hp2 := T.bulk_pos u
  have hb : t.bulk ≤ 1048576 ∧ u.bulk ≤ 1048576 ∧ T.bulks ks ≤ 1048573 := by rw [P.nd, P.bulk_no, P.bulks_cons, P.bulks_cons] at hbk; omega
  refine form_18 _ rfl (body_18 _ rfl (t :: u :: ks) rfl (fun k hk => ?_) (by simp) (by have := T.len_bulks ks; simp only [List.length_cons]; omega) (fun last => ?_))
  · rcases List.mem_cons.1 hk with rfl | hk
    · exact iht rfl hb.1
    rcases List.mem_cons.1 hk with rfl | hk
    · exact ihu rfl hb.2.1
    · exact ihks k hk rfl (Nat.le_trans (bulk_mem hk) (Nat.le_trans hb.2.2 (by decide)))
  · unfold bodyB
    rw [P.body_or]
    simp only [P.bytes_append]
    rfl
 | imp t u ht hu iht ihu =>
  intro _ hbk
  have hp := T.bulk_pos t
  have hp2 := T.bulk_pos u
  have hb : t.bulk ≤ 1048576 ∧ u.bulk ≤ 1048576 := by rw [P.nd, P.bulk_no, P.bulks_cons, P.bulks_one] at hbk; omega
  refine form_19 _ rfl (body_19 _ rfl ([t, u]) rfl (fun k hk => ?_) (by simp) (by simp only [List.length_cons, List.length_nil]; omega) (fun last => ?_))
  · rcases List.mem_cons.1 hk with rfl | hk
    · exact iht rfl hb.1
    · obtain rfl := List.mem_singleton.1 hk
      exact ihu rfl hb.2
  · unfold bodyB
    rw [P.body_imp]
    simp only [P.bytes_append]
    show _ = formB 3 false t ++ rowB ⟨#[105, 109, 112, 108, 105, 101, 115]⟩ 2 last [u]
    rw [rowB_cons, rowB_nil, P.bytes_cons, P.bytes_cons, P.bytes_cons]
    simp [formB, P.itB]
 | iff t u ht hu iht ihu =>
  intro _ hbk
  have hp := T.bulk_pos t
  have hp2 := T.bulk_pos u
  have hb : t.bulk ≤ 1048576 ∧ u.bulk ≤ 1048576 := by rw [P.nd, P.bulk_no, P.bulks_cons, P.bulks_one] at hbk; omega
  refine form_20 _ rfl (body_20 _ rfl ([t, u]) rfl (fun k hk => ?_) (by simp) (by simp only [List.length_cons, List.length_nil]; omega) (fun last => ?_))
  · rcases List.mem_cons.1 hk with rfl | hk
    · exact iht rfl hb.1
    · obtain rfl := List.mem_singleton.1 hk
      exact ihu rfl hb.2
  · unfold bodyB
    rw [P.body_iff]
    simp only [P.bytes_append]
    show _ = formB 1 false t ++ rowB ⟨#[105, 102, 102]⟩ 2 last [u]
    rw [rowB_cons, rowB_nil, P.bytes_cons, P.bytes_cons, P.bytes_cons]
    simp [formB, P.itB]
 | some s ns hs hns t ht ih =>
  intro _ hbk
  have hb : t.bulk ≤ 1048576 ∧ (s :: ns).length ≤ 1048576 := by
   have := (T.bulk_node hbk).2.1
   rw [T.bulk, P.bulks_one] at hbk
   omega
  exact form_21 _ rfl (body_21 s ns t hb.2 (ih rfl hb.1))
 | all s ns hs hns t ht ih =>
  intro _ hbk
  have hb : t.bulk ≤ 1048576 ∧ (s :: ns).length ≤ 1048576 := by
   have := (T.bulk_node hbk).2.1
   rw [T.bulk, P.bulks_one] at hbk
   omega
  exact form_22 _ rfl (body_22 s ns t hb.2 (ih rfl hb.1))
end
section
open Go.RowKit
open Go.Shelf
attribute [local go_sem] Oper.semAt_some
mutual
theorem in_lt {w : World} {R : Nat → Prop} : ∀ (t : T) (v : Value), T.In w R t v → T.In w (fun g => R g ∧ g < w.heap.size) t v
 | .node k nm ns ng mg ks, v, h => by
  have hr := fun b o => ins_lt (w := w) (R := R) b ks o
  rw [T.In] at h ⊢
  obtain ⟨A1, c1, A2, c2, A3, c3, e, h1, h2, h3, h4⟩ := h
  refine ⟨A1, c1, A2, c2, A3, c3, e, ⟨h1.1, fun hn => ?_⟩, ⟨h2.1, fun hn ad ea => ?_⟩, h3, fun hn => ?_⟩
  · obtain ⟨b, o, ea, hb, hc⟩ := h1.2 hn
    exact ⟨b, o, ea, ⟨hb, World.block_lt_of_cell? w _ (hc 0 hn)⟩, hc⟩
  · obtain ⟨b, o, ea2, hc⟩ := h2.1.cells hn
    rw [ea] at ea2
    injection ea2 with ea2
    subst ea2
    exact ⟨h2.2 hn _ ea, World.block_lt_of_cell? w _ (hc 0 hn)⟩
  ·
   obtain ⟨b, o, ea, hb, hi⟩ := h4 hn
   refine ⟨b, o, ea, ⟨hb, ?_⟩, hr b o hi⟩
   cases ks with
   | nil => exact absurd hn (by simp)
   | cons a r =>
    rw [T.Ins] at hi
    obtain ⟨⟨v0, v1, v2, v3, v4, v5, h6, _⟩, _⟩ := hi
    exact World.block_lt_of_cell? w _ h6.1
theorem ins_lt {w : World} {R : Nat → Prop} (b : Nat) : ∀ (ks : List T) (o : Nat), T.Ins w R b o ks → T.Ins w (fun g => R g ∧ g < w.heap.size) b o ks
 | [], _, _ => by rw [T.Ins]; trivial
 | t :: r, o, h => by
  have h1 := fun v => in_lt (w := w) (R := R) t v
  have h2 := fun o => ins_lt (w := w) (R := R) b r o
  rw [T.Ins] at h ⊢
  obtain ⟨⟨v0, v1, v2, v3, v4, v5, h6, hi⟩, hs⟩ := h
  exact ⟨⟨v0, v1, v2, v3, v4, v5, h6, h1 _ hi⟩, h2 _ hs⟩
end
def T.prE (t : T) : Int := if t.chk = 0 then (if 4096 < (P.said t).length then 40 else 0) else t.chk
def T.prS (t : T) : List UInt8 := if t.chk = 0 then (if 4096 < (P.said t).length then [] else P.said t) else []
theorem said_ne {t : T} (h : P.Wf true t) (_ : t.depth ≤ 60) : P.said t ≠ [] := by
 have key : bodyB true t ≠ [] := by
  unfold bodyB
  cases h with
  | tt => exact fun e => by cases e
  | ff => exact fun e => by cases e
  | cmp k hk t u ht hu => rw [P.body_cmp hk]; simp [P.bytes_append, P.bytes_cons, P.itB]
  | div m hm h0 t ht => rw [P.body_div]; simp [P.bytes_cons, P.itB]
  | not t ht => rw [P.body_not]; simp [P.bytes_cons, P.itB]
  | and t u ks ht hu hks => rw [P.body_and, P.parts_cons, P.rowR]; simp [P.bytes_append, P.bytes_cons, P.itB]
  | or t u ks ht hu hks => rw [P.body_or, P.parts_cons, P.rowR]; simp [P.bytes_append, P.bytes_cons, P.itB]
  | imp t u ht hu => rw [P.body_imp]; simp [P.bytes_append, P.bytes_cons, P.itB]
  | iff t u ht hu => rw [P.body_iff]; simp [P.bytes_append, P.bytes_cons, P.itB]
  | some s ns hs hns t ht => rw [P.body_some]; simp [P.bytes_cons, P.itB]
  | all s ns hs hns t ht => rw [P.body_all]; simp [P.bytes_cons, P.itB]
 show formB 1 true t ≠ []
 by_cases hc : P.level t.k < 1 ∨ (P.binds t.k = true ∧ true = false)
 · rw [formB_par hc]
   exact fun e => by cases e
 · rw [formB_body hc]
   exact key
set_option maxHeartbeats 3200000 in
set_option maxRecDepth 100000 in
theorem print_t (t : T) (w : World) (R : Nat → Prop) (v : Value) (hN : t.bulk ≤ 1048576) (h : T.In w R t v) :
    Calls Tryz.prog 18 #[v] w fun e w' => e = .returned (.tuple #[.string ⟨t.prS.toArray⟩, .int .i64 t.prE]) ∧ Below w.heap.size w w' := by
  have hIn := h
  obtain ⟨A1, c1, A2, c2, A3, c3, rfl, _⟩ := h.form
  obtain ⟨nm, hnm⟩ : ∃ x, t.nm = x := ⟨_, rfl⟩
  obtain ⟨ng, hng⟩ : ∃ x, t.ng = x := ⟨_, rfl⟩
  obtain ⟨n1, hn1⟩ : ∃ x, t.ns.length = x := ⟨_, rfl⟩
  obtain ⟨n2, hn2⟩ : ∃ x, t.mg.length = x := ⟨_, rfl⟩
  obtain ⟨n3, hn3⟩ : ∃ x, t.ks.length = x := ⟨_, rfl⟩
  obtain ⟨kk, hkk⟩ : ∃ x, t.k = x := ⟨_, rfl⟩
  rw [hkk, hnm, hng, hn1, hn2, hn3] at hIn ⊢
  clear h hnm hng hn1 hn2 hn3 hkk
  unfold tv at hIn ⊢
  have hIn2 := in_lt t _ hIn
  obtain ⟨W, hW, ps, hbW⟩ := made_blk w #[.int .i64 kk, .string nm, .slice A1 n1 c1, .bool ng, .slice A2 n2 c2, .slice A3 n3 c3] 28
  obtain ⟨g, hg⟩ : ∃ g, g = w.heap.size := ⟨_, rfl⟩
  have HWF := Lib.hid (P.wf_in (t := t) hIn)
  have HI1 := Lib.hid (hIn.below hbW)
  have HI2 := Lib.hid (hIn2.below hbW)
  have HBW := Lib.hid hbW
  rw [← hg] at ps
  have hsz := hbW.size
  clear hbW hIn hIn2
  obtain ⟨z, hz⟩ : ∃ z, t.chk = z := ⟨_, rfl⟩
  have HZ := Lib.hid hz
  by_cases h0 : z = 0
  ·
   subst h0
   obtain ⟨hwf, hd⟩ := HWF.out HZ.out
   have HF := Lib.hid (form_all hwf rfl hN)
   have HS0 := Lib.hid (said_ne hwf hd)
   have hln := (P.bl_all hwf).2 rfl
   have hsl : (P.said t).length ≤ 33554440 := by
    have h2 := P.bl_wrap (t := t) (n := 32 * t.bulk - 12) (fun l => by have := hln l; omega) 1 true
    unfold P.said
    omega
   have hfs : formB 1 true t = P.said t := rfl
   obtain ⟨l, hl⟩ : ∃ l, P.said t = l := ⟨_, rfl⟩
   have HPS : Hid (t.prS = if 4096 < l.length then [] else l) := Lib.hid (by unfold T.prS; rw [if_pos HZ.out, hl])
   have HPE : Hid (t.prE = if 4096 < l.length then 40 else 0) := Lib.hid (by unfold T.prE; rw [if_pos HZ.out, hl])
   rw [hl] at hsl hfs HS0
   have HFS := Lib.hid hfs
   clear hwf hd hln hfs hz hl HWF
   by_cases hlt : 4096 < l.length
   all_goals
    first
      | have d1 : decide ((l.length : Int) > 4096) = true := by simp; omega
      | have d1 : decide ((l.length : Int) > 4096) = false := by simp; omega
    first
      | have d2 : decide ((4096 : Int) < (l.length : Int)) = true := by simp; omega
      | have d2 : decide ((4096 : Int) < (l.length : Int)) = false := by simp; omega
    go_enter Tryz.func18, Tryz.ntmps18
    go_upto_region 1 with (fail)
    rw [← hW, ← hg]
    clear hW hg
    obtain ⟨x0, x1, x2, x3, x4, x5⟩ := ps.six
    go_upto_region 4 with (go_at_call 19; refine (check_t t _ R _ hN HI1.out).mono ?_; rw [HZ.out]; rintro e w2 ⟨rfl, hb2⟩; have ps2 := ps.below hb2; have HI3 := Lib.hid (HI2.out.below hb2); have HBW2 := Lib.hid (below_on HBW.out hb2); have hs2 := hb2.size; clear x0 x1 x2 x3 x4 x5 hb2; obtain ⟨x0, x1, x2, x3, x4, x5⟩ := ps2.six)
    obtain ⟨V, hV, hIs, hbV⟩ : ∃ V : World, V = w2.alloc (.cells #[.pointer none, .slice none 0 0] TW) ∧ Lib.IsBuilder TW TB w2.heap.size w2.heap.size [] V ∧ Below w2.heap.size w2 V := ⟨_, rfl, Lib.fresh_isBuilder _ _ _, below_alloc1 _ _⟩
    obtain ⟨b, hb⟩ : ∃ b, b = w2.heap.size := ⟨_, rfl⟩
    have HI4 := Lib.hid (HI3.out.below hbV)
    have hRb : ∀ g, (R g ∧ g < w.heap.size) → g < b := fun g h => by have := h.2; omega
    have HR := Lib.hid hRb
    have HBW3 := Lib.hid (below_on HBW2.out hbV)
    have hwb : w.heap.size ≤ b := by omega
    have hBV : b ≤ V.heap.size := by have := hbV.size; omega
    have ps3 := ps2.below hbV
    go_upto_region 5 with (fail)
    rw [← hV, ← hb]
    rw [← hb] at hIs
    clear x0 x1 x2 x3 x4 x5 hV hb hbV hRb ps ps2 hs2 hsz
    obtain ⟨x0, x1, x2, x3, x4, x5⟩ := ps3.six
    have hl0 : ([] : List Value).length + (formB 1 true t).length ≤ 140737488355328 := by rw [HFS.out, List.length_nil]; omega
    go_upto_region 6 with (go_at_call 43; refine (HF.out b b [] 1 true V _ _ (by decide) HI4.out HR.out hIs hl0 hBV).mono ?_; rw [HFS.out, List.nil_append]; rintro e w3 ⟨rfl, h3, hb3, hk3⟩)
    have hb33 := hb3.mono hwb
    have H3 := Lib.hid h3
    clear h3 hk3 hIs
    go_wp2_with (first
     | (go_at_call 44; refine (len_w b b _ _ (.inr H3.out)).mono ?_; rw [Lib.byteCells_length]; rintro e w4 ⟨rfl, rfl⟩)
     | (go_at_call 45; refine (string_w b b l _ (.inr H3.out) HS0.out).mono ?_; rintro e w5 ⟨rfl, hb5⟩))
    go_ret2
    rw [HPS.out, HPE.out]
    first
      | rw [if_pos hlt, if_pos hlt]
      | rw [if_neg hlt, if_neg hlt]
    first
      | exact ⟨rfl, HBW3.out.trans (hb33.trans (hb5.mono hwb))⟩
      | exact ⟨rfl, HBW3.out.trans hb33⟩
  ·
   have hzz : (z != 0) = true := by simpa using h0
   have HPS : Hid (t.prS = []) := Lib.hid (by unfold T.prS; rw [if_neg (by rw [hz]; exact h0)])
   have HPE : Hid (t.prE = z) := Lib.hid (by unfold T.prE; rw [if_neg (by rw [hz]; exact h0), hz])
   clear hz h0 HWF
   go_enter Tryz.func18, Tryz.ntmps18
   go_upto_region 1 with (fail)
   rw [← hW, ← hg]
   clear hW hg
   obtain ⟨x0, x1, x2, x3, x4, x5⟩ := ps.six
   go_wp2_with (go_at_call 19; refine (check_t t _ R _ hN HI1.out).mono ?_; rw [HZ.out]; rintro e w2 ⟨rfl, hb2⟩)
   go_ret2
   rw [HPS.out, HPE.out]
   exact ⟨rfl, below_on HBW.out hb2⟩
end
end Go.Proofs.YthiadenmljbdaaaGreatDoor

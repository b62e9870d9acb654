/-
  s: the parts WPar of the proof.
-/
import Derived.Test.YthiadenmljbdaaaGreatDoorB20s
section
namespace Go.Proofs.YthiadenmljbdaaaGreatDoor
open Go.RowKit
open Go.Shelf
attribute [local go_sem] Oper.semAt_some
def formB (least : Nat) (last : Bool) (t : T) : List UInt8 := P.bytes (P.wrap least last (P.pt t))
def bodyB (last : Bool) (t : T) : List UInt8 := P.bytes (P.body t last)
def FormW (t : T) : Prop := ∀ (B b : Nat) (bs : List Value) (least : Nat) (last : Bool) (w : World) (R : Nat → Prop) (v : Value), least ≤ 5 → T.In w R t v → (∀ g, R g → g < B) → Lib.IsBuilder TW TB B b bs w →
    bs.length + (formB least last t).length ≤ 140737488355328 → B ≤ w.heap.size →
    Calls Tryz.prog 43 #[.pointer (some ⟨b, 0, none⟩), v, .int .i64 (least : Nat), .bool last] w fun e w' => e = .returned (.tuple #[]) ∧ (Lib.BuilderAt TW TB B b (.pointer (some ⟨b, 0, none⟩)) (bs ++ Lib.byteCells (formB least last t)) w' ∧ Below B w w' ∧ Lib.OthersKept TB (some b) w w')
def BodyW (t : T) : Prop := ∀ (B b : Nat) (bs : List Value) (least : Nat) (last : Bool) (w : World) (R : Nat → Prop) (v : Value), least ≤ 5 → ¬ (P.level t.k < least ∨ (P.binds t.k = true ∧ last = false)) → T.In w R t v → (∀ g, R g → g < B) → Lib.IsBuilder TW TB B b bs w →
    bs.length + (bodyB last t).length ≤ 140737488355328 → B ≤ w.heap.size →
    Calls Tryz.prog 43 #[.pointer (some ⟨b, 0, none⟩), v, .int .i64 (least : Nat), .bool last] w fun e w' => e = .returned (.tuple #[]) ∧ (Lib.BuilderAt TW TB B b (.pointer (some ⟨b, 0, none⟩)) (bs ++ Lib.byteCells (bodyB last t)) w' ∧ Below B w w' ∧ Lib.OthersKept TB (some b) w w')
theorem formB_body {least : Nat} {last : Bool} {t : T} (h : ¬ (P.level t.k < least ∨ (P.binds t.k = true ∧ last = false))) : formB least last t = bodyB last t := by
  unfold formB P.wrap
  rw [if_neg (by exact h)]
  rfl
theorem formB_par {least : Nat} {last : Bool} {t : T} (h : P.level t.k < least ∨ (P.binds t.k = true ∧ last = false)) : formB least last t = 40 :: (bodyB true t ++ [41]) := by
  unfold formB P.wrap
  rw [if_pos (by exact h)]
  unfold P.par
  rw [P.bytes_cons, P.bytes_append, P.bytes_cons]
  rfl
theorem below_IsB {B b : Nat} {bs : List Value} {w : World} (h : Lib.IsBuilder TW TB B b bs w) : b < w.heap.size := by rcases h with h | h <;> exact h.lt
set_option maxHeartbeats 3200000 in
set_option maxRecDepth 100000 in
theorem form_par_17 (t : T) (hk : t.k = 17) (hw : BodyW t) (B b : Nat) (bs : List Value) (least : Nat) (hl : 4 < least) (last : Bool) (w : World) (R : Nat → Prop) (v : Value) (h : T.In w R t v) (hR : ∀ g, R g → g < B) (hIs : Lib.IsBuilder TW TB B b bs w)
    (hlen : bs.length + (bodyB true t).length + 2 ≤ 140737488355328) (hBw : B ≤ w.heap.size) :
    Calls Tryz.prog 43 #[.pointer (some ⟨b, 0, none⟩), v, .int .i64 (least : Nat), .bool last] w fun e w' => e = .returned (.tuple #[]) ∧ (Lib.BuilderAt TW TB B b (.pointer (some ⟨b, 0, none⟩)) (((bs ++ [Value.int .u8 40]) ++ Lib.byteCells (bodyB true t)) ++ [Value.int .u8 41]) w' ∧ Below B w w' ∧ Lib.OthersKept TB (some b) w w') := by
  have HW := Lib.hid hw
  have hnp : ¬ (P.level t.k < 1 ∨ (P.binds t.k = true ∧ true = false)) := by rw [hk]; decide
  have HNP := Lib.hid hnp
  clear hw hnp
  have d1 : decide ((4 : Int) < (least : Int)) = true := by simp; omega
  have hIn := h
  obtain ⟨A1, c1, A2, c2, A3, c3, rfl, _⟩ := h.form
  obtain ⟨nm, hnm⟩ : ∃ x, t.nm = x := ⟨_, rfl⟩
  obtain ⟨ng, hng⟩ : ∃ x, t.ng = x := ⟨_, rfl⟩
  obtain ⟨n1, hn1⟩ : ∃ x, t.ns.length = x := ⟨_, rfl⟩
  obtain ⟨n2, hn2⟩ : ∃ x, t.mg.length = x := ⟨_, rfl⟩
  obtain ⟨n3, hn3⟩ : ∃ x, t.ks.length = x := ⟨_, rfl⟩
  rw [hk, hnm, hng, hn1, hn2, hn3] at hIn ⊢
  clear h hnm hng hn1 hn2 hn3
  unfold tv at hIn ⊢
  go_enter Tryz.func43, Tryz.ntmps43
  go_upto_region 1 with (fail)
  obtain ⟨W, hW, ps, hbW⟩ := made_blk w #[.int .i64 17, .string nm, .slice A1 n1 c1, .bool ng, .slice A2 n2 c2, .slice A3 n3 c3] 28
  obtain ⟨g, hg⟩ : ∃ g, g = w.heap.size := ⟨_, rfl⟩
  have HB : Hid (Lib.IsBuilder TW TB B b bs W) := Lib.hid (hW ▸ isB_alloc hIs _)
  have HK : Hid (Lib.OthersKept TB (some b) w W) := Lib.hid (hW ▸ (Lib.OthersKept.refl TB (some b) w).alloc _)
  have hBW : B ≤ W.heap.size := Nat.le_trans hBw hbW.size
  have HBW := Lib.hid (hbW.mono hBw)
  have HI1 := Lib.hid (hIn.under hR (hbW.mono hBw))
  have HR := Lib.hid hR
  rw [← hW, ← hg]
  rw [← hg] at ps
  have hgb : g ≠ b := by have := below_IsB hIs; omega
  clear hW hbW hIs hBw hg hIn hR
  obtain ⟨x0, x1, x2, x3, x4, x5⟩ := ps.six
  go_upto_region 3 with (go_at_call 75; refine (level_17 nm A1 n1 c1 ng A2 n2 c2 A3 n3 c3 W).mono ?_; rintro e w1 ⟨rfl, hb1⟩; have pg1 : Blk w1 g 28 #[.int .i64 17, .string nm, .slice A1 n1 c1, .bool ng, .slice A2 n2 c2, .slice A3 n3 c3] := ok_below hb1 g _ ps (by simpa using hgb) (fun c fz e => by injection e with _ e _; exact absurd e (by decide)); have HB1 := Lib.hid (isB_below HB.out hb1); have HBW1 := Lib.hid (HBW.out.trans (hb1.mono hBW)); have HK1 := Lib.hid (HK.out.trans (ok_below hb1)); have hB1 : B ≤ w1.heap.size := Nat.le_trans hBW hb1.size; have HI2 := Lib.hid (HI1.out.under HR.out (hb1.mono hBW)); clear x0 x1 x2 x3 x4 x5 hb1; obtain ⟨x0, x1, x2, x3, x4, x5⟩ := pg1.six)
  go_upto_region 4 with (go_at_call 76; refine (wbyte_w B b bs 40 _ HB1.out (by omega) hB1).mono ?_; rintro e w2 ⟨rfl, h2, hb2, hk2⟩)
  have pg2 : Blk w2 g 28 #[.int .i64 17, .string nm, .slice A1 n1 c1, .bool ng, .slice A2 n2 c2, .slice A3 n3 c3] := hk2 g _ pg1 (by simpa using hgb) (fun c fz e => by injection e with _ e _; exact absurd e (by decide))
  have HBW2 := Lib.hid (HBW1.out.trans hb2)
  have HK2 := Lib.hid (HK1.out.trans hk2)
  have hB2 : B ≤ w2.heap.size := Nat.le_trans hB1 hb2.size
  have HI3 := Lib.hid (HI2.out.under HR.out hb2)
  have H2 := Lib.hid h2
  have hl2 : (bs ++ [Value.int .u8 40]).length + (bodyB true t).length ≤ 140737488355328 := by rw [List.length_append]; simp only [List.length_cons, List.length_nil]; omega
  have hl3 : ((bs ++ [Value.int .u8 40]) ++ Lib.byteCells (bodyB true t)).length + 1 ≤ 140737488355328 := by rw [List.length_append, List.length_append, Lib.byteCells_length]; simp only [List.length_cons, List.length_nil]; omega
  clear x0 x1 x2 x3 x4 x5 h2 hb2 hk2 ps pg1
  obtain ⟨x0, x1, x2, x3, x4, x5⟩ := pg2.six
  go_upto_region 5 with (go_at_call 43; refine (HW.out B b (bs ++ [Value.int .u8 40]) 1 true _ R _ (by decide) HNP.out HI3.out HR.out (.inr H2.out) hl2 hB2).mono ?_; rintro e w3 ⟨rfl, h3, hb3, hk3⟩)
  go_wp2_with (go_at_call 76; refine (wbyte_w B b _ 41 _ (.inr h3) hl3 (Nat.le_trans hB2 hb3.size)).mono ?_; rintro e w4 ⟨rfl, h4, hb4, hk4⟩)
  refine bodyPost_ret (results_none rfl _ _ _) rfl ?_
  exact ⟨rfl, h4, (HBW2.out.trans hb3).trans hb4, (HK2.out.trans hk3).trans hk4⟩
set_option maxHeartbeats 3200000 in
set_option maxRecDepth 100000 in
theorem form_par_18 (t : T) (hk : t.k = 18) (hw : BodyW t) (B b : Nat) (bs : List Value) (least : Nat) (hl : 3 < least) (last : Bool) (w : World) (R : Nat → Prop) (v : Value) (h : T.In w R t v) (hR : ∀ g, R g → g < B) (hIs : Lib.IsBuilder TW TB B b bs w)
    (hlen : bs.length + (bodyB true t).length + 2 ≤ 140737488355328) (hBw : B ≤ w.heap.size) :
    Calls Tryz.prog 43 #[.pointer (some ⟨b, 0, none⟩), v, .int .i64 (least : Nat), .bool last] w fun e w' => e = .returned (.tuple #[]) ∧ (Lib.BuilderAt TW TB B b (.pointer (some ⟨b, 0, none⟩)) (((bs ++ [Value.int .u8 40]) ++ Lib.byteCells (bodyB true t)) ++ [Value.int .u8 41]) w' ∧ Below B w w' ∧ Lib.OthersKept TB (some b) w w') := by
  have HW := Lib.hid hw
  have hnp : ¬ (P.level t.k < 1 ∨ (P.binds t.k = true ∧ true = false)) := by rw [hk]; decide
  have HNP := Lib.hid hnp
  clear hw hnp
  have d1 : decide ((3 : Int) < (least : Int)) = true := by simp; omega
  have hIn := h
  obtain ⟨A1, c1, A2, c2, A3, c3, rfl, _⟩ := h.form
  obtain ⟨nm, hnm⟩ : ∃ x, t.nm = x := ⟨_, rfl⟩
  obtain ⟨ng, hng⟩ : ∃ x, t.ng = x := ⟨_, rfl⟩
  obtain ⟨n1, hn1⟩ : ∃ x, t.ns.length = x := ⟨_, rfl⟩
  obtain ⟨n2, hn2⟩ : ∃ x, t.mg.length = x := ⟨_, rfl⟩
  obtain ⟨n3, hn3⟩ : ∃ x, t.ks.length = x := ⟨_, rfl⟩
  rw [hk, hnm, hng, hn1, hn2, hn3] at hIn ⊢
  clear h hnm hng hn1 hn2 hn3
  unfold tv at hIn ⊢
  go_enter Tryz.func43, Tryz.ntmps43
  go_upto_region 1 with (fail)
  obtain ⟨W, hW, ps, hbW⟩ := made_blk w #[.int .i64 18, .string nm, .slice A1 n1 c1, .bool ng, .slice A2 n2 c2, .slice A3 n3 c3] 28
  obtain ⟨g, hg⟩ : ∃ g, g = w.heap.size := ⟨_, rfl⟩
  have HB : Hid (Lib.IsBuilder TW TB B b bs W) := Lib.hid (hW ▸ isB_alloc hIs _)
  have HK : Hid (Lib.OthersKept TB (some b) w W) := Lib.hid (hW ▸ (Lib.OthersKept.refl TB (some b) w).alloc _)
  have hBW : B ≤ W.heap.size := Nat.le_trans hBw hbW.size
  have HBW := Lib.hid (hbW.mono hBw)
  have HI1 := Lib.hid (hIn.under hR (hbW.mono hBw))
  have HR := Lib.hid hR
  rw [← hW, ← hg]
  rw [← hg] at ps
  have hgb : g ≠ b := by have := below_IsB hIs; omega
  clear hW hbW hIs hBw hg hIn hR
  obtain ⟨x0, x1, x2, x3, x4, x5⟩ := ps.six
  go_upto_region 3 with (go_at_call 75; refine (level_18 nm A1 n1 c1 ng A2 n2 c2 A3 n3 c3 W).mono ?_; rintro e w1 ⟨rfl, hb1⟩; have pg1 : Blk w1 g 28 #[.int .i64 18, .string nm, .slice A1 n1 c1, .bool ng, .slice A2 n2 c2, .slice A3 n3 c3] := ok_below hb1 g _ ps (by simpa using hgb) (fun c fz e => by injection e with _ e _; exact absurd e (by decide)); have HB1 := Lib.hid (isB_below HB.out hb1); have HBW1 := Lib.hid (HBW.out.trans (hb1.mono hBW)); have HK1 := Lib.hid (HK.out.trans (ok_below hb1)); have hB1 : B ≤ w1.heap.size := Nat.le_trans hBW hb1.size; have HI2 := Lib.hid (HI1.out.under HR.out (hb1.mono hBW)); clear x0 x1 x2 x3 x4 x5 hb1; obtain ⟨x0, x1, x2, x3, x4, x5⟩ := pg1.six)
  go_upto_region 4 with (go_at_call 76; refine (wbyte_w B b bs 40 _ HB1.out (by omega) hB1).mono ?_; rintro e w2 ⟨rfl, h2, hb2, hk2⟩)
  have pg2 : Blk w2 g 28 #[.int .i64 18, .string nm, .slice A1 n1 c1, .bool ng, .slice A2 n2 c2, .slice A3 n3 c3] := hk2 g _ pg1 (by simpa using hgb) (fun c fz e => by injection e with _ e _; exact absurd e (by decide))
  have HBW2 := Lib.hid (HBW1.out.trans hb2)
  have HK2 := Lib.hid (HK1.out.trans hk2)
  have hB2 : B ≤ w2.heap.size := Nat.le_trans hB1 hb2.size
  have HI3 := Lib.hid (HI2.out.under HR.out hb2)
  have H2 := Lib.hid h2
  have hl2 : (bs ++ [Value.int .u8 40]).length + (bodyB true t).length ≤ 140737488355328 := by rw [List.length_append]; simp only [List.length_cons, List.length_nil]; omega
  have hl3 : ((bs ++ [Value.int .u8 40]) ++ Lib.byteCells (bodyB true t)).length + 1 ≤ 140737488355328 := by rw [List.length_append, List.length_append, Lib.byteCells_length]; simp only [List.length_cons, List.length_nil]; omega
  clear x0 x1 x2 x3 x4 x5 h2 hb2 hk2 ps pg1
  obtain ⟨x0, x1, x2, x3, x4, x5⟩ := pg2.six
  go_upto_region 5 with (go_at_call 43; refine (HW.out B b (bs ++ [Value.int .u8 40]) 1 true _ R _ (by decide) HNP.out HI3.out HR.out (.inr H2.out) hl2 hB2).mono ?_; rintro e w3 ⟨rfl, h3, hb3, hk3⟩)
  go_wp2_with (go_at_call 76; refine (wbyte_w B b _ 41 _ (.inr h3) hl3 (Nat.le_trans hB2 hb3.size)).mono ?_; rintro e w4 ⟨rfl, h4, hb4, hk4⟩)
  refine bodyPost_ret (results_none rfl _ _ _) rfl ?_
  exact ⟨rfl, h4, (HBW2.out.trans hb3).trans hb4, (HK2.out.trans hk3).trans hk4⟩
set_option maxHeartbeats 3200000 in
set_option maxRecDepth 100000 in
theorem form_par_19 (t : T) (hk : t.k = 19) (hw : BodyW t) (B b : Nat) (bs : List Value) (least : Nat) (hl : 2 < least) (last : Bool) (w : World) (R : Nat → Prop) (v : Value) (h : T.In w R t v) (hR : ∀ g, R g → g < B) (hIs : Lib.IsBuilder TW TB B b bs w)
    (hlen : bs.length + (bodyB true t).length + 2 ≤ 140737488355328) (hBw : B ≤ w.heap.size) :
    Calls Tryz.prog 43 #[.pointer (some ⟨b, 0, none⟩), v, .int .i64 (least : Nat), .bool last] w fun e w' => e = .returned (.tuple #[]) ∧ (Lib.BuilderAt TW TB B b (.pointer (some ⟨b, 0, none⟩)) (((bs ++ [Value.int .u8 40]) ++ Lib.byteCells (bodyB true t)) ++ [Value.int .u8 41]) w' ∧ Below B w w' ∧ Lib.OthersKept TB (some b) w w') := by
  have HW := Lib.hid hw
  have hnp : ¬ (P.level t.k < 1 ∨ (P.binds t.k = true ∧ true = false)) := by rw [hk]; decide
  have HNP := Lib.hid hnp
  clear hw hnp
  have d1 : decide ((2 : Int) < (least : Int)) = true := by simp; omega
  have hIn := h
  obtain ⟨A1, c1, A2, c2, A3, c3, rfl, _⟩ := h.form
  obtain ⟨nm, hnm⟩ : ∃ x, t.nm = x := ⟨_, rfl⟩
  obtain ⟨ng, hng⟩ : ∃ x, t.ng = x := ⟨_, rfl⟩
  obtain ⟨n1, hn1⟩ : ∃ x, t.ns.length = x := ⟨_, rfl⟩
  obtain ⟨n2, hn2⟩ : ∃ x, t.mg.length = x := ⟨_, rfl⟩
  obtain ⟨n3, hn3⟩ : ∃ x, t.ks.length = x := ⟨_, rfl⟩
  rw [hk, hnm, hng, hn1, hn2, hn3] at hIn ⊢
  clear h hnm hng hn1 hn2 hn3
  unfold tv at hIn ⊢
  go_enter Tryz.func43, Tryz.ntmps43
  go_upto_region 1 with (fail)
  obtain ⟨W, hW, ps, hbW⟩ := made_blk w #[.int .i64 19, .string nm, .slice A1 n1 c1, .bool ng, .slice A2 n2 c2, .slice A3 n3 c3] 28
  obtain ⟨g, hg⟩ : ∃ g, g = w.heap.size := ⟨_, rfl⟩
  have HB : Hid (Lib.IsBuilder TW TB B b bs W) := Lib.hid (hW ▸ isB_alloc hIs _)
  have HK : Hid (Lib.OthersKept TB (some b) w W) := Lib.hid (hW ▸ (Lib.OthersKept.refl TB (some b) w).alloc _)
  have hBW : B ≤ W.heap.size := Nat.le_trans hBw hbW.size
  have HBW := Lib.hid (hbW.mono hBw)
  have HI1 := Lib.hid (hIn.under hR (hbW.mono hBw))
  have HR := Lib.hid hR
  rw [← hW, ← hg]
  rw [← hg] at ps
  have hgb : g ≠ b := by have := below_IsB hIs; omega
  clear hW hbW hIs hBw hg hIn hR
  obtain ⟨x0, x1, x2, x3, x4, x5⟩ := ps.six
  go_upto_region 3 with (go_at_call 75; refine (level_19 nm A1 n1 c1 ng A2 n2 c2 A3 n3 c3 W).mono ?_; rintro e w1 ⟨rfl, hb1⟩; have pg1 : Blk w1 g 28 #[.int .i64 19, .string nm, .slice A1 n1 c1, .bool ng, .slice A2 n2 c2, .slice A3 n3 c3] := ok_below hb1 g _ ps (by simpa using hgb) (fun c fz e => by injection e with _ e _; exact absurd e (by decide)); have HB1 := Lib.hid (isB_below HB.out hb1); have HBW1 := Lib.hid (HBW.out.trans (hb1.mono hBW)); have HK1 := Lib.hid (HK.out.trans (ok_below hb1)); have hB1 : B ≤ w1.heap.size := Nat.le_trans hBW hb1.size; have HI2 := Lib.hid (HI1.out.under HR.out (hb1.mono hBW)); clear x0 x1 x2 x3 x4 x5 hb1; obtain ⟨x0, x1, x2, x3, x4, x5⟩ := pg1.six)
  go_upto_region 4 with (go_at_call 76; refine (wbyte_w B b bs 40 _ HB1.out (by omega) hB1).mono ?_; rintro e w2 ⟨rfl, h2, hb2, hk2⟩)
  have pg2 : Blk w2 g 28 #[.int .i64 19, .string nm, .slice A1 n1 c1, .bool ng, .slice A2 n2 c2, .slice A3 n3 c3] := hk2 g _ pg1 (by simpa using hgb) (fun c fz e => by injection e with _ e _; exact absurd e (by decide))
  have HBW2 := Lib.hid (HBW1.out.trans hb2)
  have HK2 := Lib.hid (HK1.out.trans hk2)
  have hB2 : B ≤ w2.heap.size := Nat.le_trans hB1 hb2.size
  have HI3 := Lib.hid (HI2.out.under HR.out hb2)
  have H2 := Lib.hid h2
  have hl2 : (bs ++ [Value.int .u8 40]).length + (bodyB true t).length ≤ 140737488355328 := by rw [List.length_append]; simp only [List.length_cons, List.length_nil]; omega
  have hl3 : ((bs ++ [Value.int .u8 40]) ++ Lib.byteCells (bodyB true t)).length + 1 ≤ 140737488355328 := by rw [List.length_append, List.length_append, Lib.byteCells_length]; simp only [List.length_cons, List.length_nil]; omega
  clear x0 x1 x2 x3 x4 x5 h2 hb2 hk2 ps pg1
  obtain ⟨x0, x1, x2, x3, x4, x5⟩ := pg2.six
  go_upto_region 5 with (go_at_call 43; refine (HW.out B b (bs ++ [Value.int .u8 40]) 1 true _ R _ (by decide) HNP.out HI3.out HR.out (.inr H2.out) hl2 hB2).mono ?_; rintro e w3 ⟨rfl, h3, hb3, hk3⟩)
  go_wp2_with (go_at_call 76; refine (wbyte_w B b _ 41 _ (.inr h3) hl3 (Nat.le_trans hB2 hb3.size)).mono ?_; rintro e w4 ⟨rfl, h4, hb4, hk4⟩)
  refine bodyPost_ret (results_none rfl _ _ _) rfl ?_
  exact ⟨rfl, h4, (HBW2.out.trans hb3).trans hb4, (HK2.out.trans hk3).trans hk4⟩
set_option maxHeartbeats 3200000 in
set_option maxRecDepth 100000 in
theorem form_par_20 (t : T) (hk : t.k = 20) (hw : BodyW t) (B b : Nat) (bs : List Value) (least : Nat) (hl : 1 < least) (last : Bool) (w : World) (R : Nat → Prop) (v : Value) (h : T.In w R t v) (hR : ∀ g, R g → g < B) (hIs : Lib.IsBuilder TW TB B b bs w)
    (hlen : bs.length + (bodyB true t).length + 2 ≤ 140737488355328) (hBw : B ≤ w.heap.size) :
    Calls Tryz.prog 43 #[.pointer (some ⟨b, 0, none⟩), v, .int .i64 (least : Nat), .bool last] w fun e w' => e = .returned (.tuple #[]) ∧ (Lib.BuilderAt TW TB B b (.pointer (some ⟨b, 0, none⟩)) (((bs ++ [Value.int .u8 40]) ++ Lib.byteCells (bodyB true t)) ++ [Value.int .u8 41]) w' ∧ Below B w w' ∧ Lib.OthersKept TB (some b) w w') := by
  have HW := Lib.hid hw
  have hnp : ¬ (P.level t.k < 1 ∨ (P.binds t.k = true ∧ true = false)) := by rw [hk]; decide
  have HNP := Lib.hid hnp
  clear hw hnp
  have d1 : decide ((1 : Int) < (least : Int)) = true := by simp; omega
  have hIn := h
  obtain ⟨A1, c1, A2, c2, A3, c3, rfl, _⟩ := h.form
  obtain ⟨nm, hnm⟩ : ∃ x, t.nm = x := ⟨_, rfl⟩
  obtain ⟨ng, hng⟩ : ∃ x, t.ng = x := ⟨_, rfl⟩
  obtain ⟨n1, hn1⟩ : ∃ x, t.ns.length = x := ⟨_, rfl⟩
  obtain ⟨n2, hn2⟩ : ∃ x, t.mg.length = x := ⟨_, rfl⟩
  obtain ⟨n3, hn3⟩ : ∃ x, t.ks.length = x := ⟨_, rfl⟩
  rw [hk, hnm, hng, hn1, hn2, hn3] at hIn ⊢
  clear h hnm hng hn1 hn2 hn3
  unfold tv at hIn ⊢
  go_enter Tryz.func43, Tryz.ntmps43
  go_upto_region 1 with (fail)
  obtain ⟨W, hW, ps, hbW⟩ := made_blk w #[.int .i64 20, .string nm, .slice A1 n1 c1, .bool ng, .slice A2 n2 c2, .slice A3 n3 c3] 28
  obtain ⟨g, hg⟩ : ∃ g, g = w.heap.size := ⟨_, rfl⟩
  have HB : Hid (Lib.IsBuilder TW TB B b bs W) := Lib.hid (hW ▸ isB_alloc hIs _)
  have HK : Hid (Lib.OthersKept TB (some b) w W) := Lib.hid (hW ▸ (Lib.OthersKept.refl TB (some b) w).alloc _)
  have hBW : B ≤ W.heap.size := Nat.le_trans hBw hbW.size
  have HBW := Lib.hid (hbW.mono hBw)
  have HI1 := Lib.hid (hIn.under hR (hbW.mono hBw))
  have HR := Lib.hid hR
  rw [← hW, ← hg]
  rw [← hg] at ps
  have hgb : g ≠ b := by have := below_IsB hIs; omega
  clear hW hbW hIs hBw hg hIn hR
  obtain ⟨x0, x1, x2, x3, x4, x5⟩ := ps.six
  go_upto_region 3 with (go_at_call 75; refine (level_20 nm A1 n1 c1 ng A2 n2 c2 A3 n3 c3 W).mono ?_; rintro e w1 ⟨rfl, hb1⟩; have pg1 : Blk w1 g 28 #[.int .i64 20, .string nm, .slice A1 n1 c1, .bool ng, .slice A2 n2 c2, .slice A3 n3 c3] := ok_below hb1 g _ ps (by simpa using hgb) (fun c fz e => by injection e with _ e _; exact absurd e (by decide)); have HB1 := Lib.hid (isB_below HB.out hb1); have HBW1 := Lib.hid (HBW.out.trans (hb1.mono hBW)); have HK1 := Lib.hid (HK.out.trans (ok_below hb1)); have hB1 : B ≤ w1.heap.size := Nat.le_trans hBW hb1.size; have HI2 := Lib.hid (HI1.out.under HR.out (hb1.mono hBW)); clear x0 x1 x2 x3 x4 x5 hb1; obtain ⟨x0, x1, x2, x3, x4, x5⟩ := pg1.six)
  go_upto_region 4 with (go_at_call 76; refine (wbyte_w B b bs 40 _ HB1.out (by omega) hB1).mono ?_; rintro e w2 ⟨rfl, h2, hb2, hk2⟩)
  have pg2 : Blk w2 g 28 #[.int .i64 20, .string nm, .slice A1 n1 c1, .bool ng, .slice A2 n2 c2, .slice A3 n3 c3] := hk2 g _ pg1 (by simpa using hgb) (fun c fz e => by injection e with _ e _; exact absurd e (by decide))
  have HBW2 := Lib.hid (HBW1.out.trans hb2)
  have HK2 := Lib.hid (HK1.out.trans hk2)
  have hB2 : B ≤ w2.heap.size := Nat.le_trans hB1 hb2.size
  have HI3 := Lib.hid (HI2.out.under HR.out hb2)
  have H2 := Lib.hid h2
  have hl2 : (bs ++ [Value.int .u8 40]).length + (bodyB true t).length ≤ 140737488355328 := by rw [List.length_append]; simp only [List.length_cons, List.length_nil]; omega
  have hl3 : ((bs ++ [Value.int .u8 40]) ++ Lib.byteCells (bodyB true t)).length + 1 ≤ 140737488355328 := by rw [List.length_append, List.length_append, Lib.byteCells_length]; simp only [List.length_cons, List.length_nil]; omega
  clear x0 x1 x2 x3 x4 x5 h2 hb2 hk2 ps pg1
  obtain ⟨x0, x1, x2, x3, x4, x5⟩ := pg2.six
  go_upto_region 5 with (go_at_call 43; refine (HW.out B b (bs ++ [Value.int .u8 40]) 1 true _ R _ (by decide) HNP.out HI3.out HR.out (.inr H2.out) hl2 hB2).mono ?_; rintro e w3 ⟨rfl, h3, hb3, hk3⟩)
  go_wp2_with (go_at_call 76; refine (wbyte_w B b _ 41 _ (.inr h3) hl3 (Nat.le_trans hB2 hb3.size)).mono ?_; rintro e w4 ⟨rfl, h4, hb4, hk4⟩)
  refine bodyPost_ret (results_none rfl _ _ _) rfl ?_
  exact ⟨rfl, h4, (HBW2.out.trans hb3).trans hb4, (HK2.out.trans hk3).trans hk4⟩
set_option maxHeartbeats 3200000 in
set_option maxRecDepth 100000 in
theorem form_par_21 (t : T) (hk : t.k = 21) (hw : BodyW t) (B b : Nat) (bs : List Value) (least : Nat) (hl : least ≤ 5)  (w : World) (R : Nat → Prop) (v : Value) (h : T.In w R t v) (hR : ∀ g, R g → g < B) (hIs : Lib.IsBuilder TW TB B b bs w)
    (hlen : bs.length + (bodyB true t).length + 2 ≤ 140737488355328) (hBw : B ≤ w.heap.size) :
    Calls Tryz.prog 43 #[.pointer (some ⟨b, 0, none⟩), v, .int .i64 (least : Nat), .bool false] w fun e w' => e = .returned (.tuple #[]) ∧ (Lib.BuilderAt TW TB B b (.pointer (some ⟨b, 0, none⟩)) (((bs ++ [Value.int .u8 40]) ++ Lib.byteCells (bodyB true t)) ++ [Value.int .u8 41]) w' ∧ Below B w w' ∧ Lib.OthersKept TB (some b) w w') := by
  have HW := Lib.hid hw
  have hnp : ¬ (P.level t.k < 1 ∨ (P.binds t.k = true ∧ true = false)) := by rw [hk]; decide
  have HNP := Lib.hid hnp
  clear hw hnp
  have d1 : decide ((5 : Int) < (least : Int)) = false := by simp; omega
  have hIn := h
  obtain ⟨A1, c1, A2, c2, A3, c3, rfl, _⟩ := h.form
  obtain ⟨nm, hnm⟩ : ∃ x, t.nm = x := ⟨_, rfl⟩
  obtain ⟨ng, hng⟩ : ∃ x, t.ng = x := ⟨_, rfl⟩
  obtain ⟨n1, hn1⟩ : ∃ x, t.ns.length = x := ⟨_, rfl⟩
  obtain ⟨n2, hn2⟩ : ∃ x, t.mg.length = x := ⟨_, rfl⟩
  obtain ⟨n3, hn3⟩ : ∃ x, t.ks.length = x := ⟨_, rfl⟩
  rw [hk, hnm, hng, hn1, hn2, hn3] at hIn ⊢
  clear h hnm hng hn1 hn2 hn3
  unfold tv at hIn ⊢
  go_enter Tryz.func43, Tryz.ntmps43
  go_upto_region 1 with (fail)
  obtain ⟨W, hW, ps, hbW⟩ := made_blk w #[.int .i64 21, .string nm, .slice A1 n1 c1, .bool ng, .slice A2 n2 c2, .slice A3 n3 c3] 28
  obtain ⟨g, hg⟩ : ∃ g, g = w.heap.size := ⟨_, rfl⟩
  have HB : Hid (Lib.IsBuilder TW TB B b bs W) := Lib.hid (hW ▸ isB_alloc hIs _)
  have HK : Hid (Lib.OthersKept TB (some b) w W) := Lib.hid (hW ▸ (Lib.OthersKept.refl TB (some b) w).alloc _)
  have hBW : B ≤ W.heap.size := Nat.le_trans hBw hbW.size
  have HBW := Lib.hid (hbW.mono hBw)
  have HI1 := Lib.hid (hIn.under hR (hbW.mono hBw))
  have HR := Lib.hid hR
  rw [← hW, ← hg]
  rw [← hg] at ps
  have hgb : g ≠ b := by have := below_IsB hIs; omega
  clear hW hbW hIs hBw hg hIn hR
  obtain ⟨x0, x1, x2, x3, x4, x5⟩ := ps.six
  go_upto_region 3 with (go_at_call 75; refine (level_21 nm A1 n1 c1 ng A2 n2 c2 A3 n3 c3 W).mono ?_; rintro e w1 ⟨rfl, hb1⟩; have pg1 : Blk w1 g 28 #[.int .i64 21, .string nm, .slice A1 n1 c1, .bool ng, .slice A2 n2 c2, .slice A3 n3 c3] := ok_below hb1 g _ ps (by simpa using hgb) (fun c fz e => by injection e with _ e _; exact absurd e (by decide)); have HB1 := Lib.hid (isB_below HB.out hb1); have HBW1 := Lib.hid (HBW.out.trans (hb1.mono hBW)); have HK1 := Lib.hid (HK.out.trans (ok_below hb1)); have hB1 : B ≤ w1.heap.size := Nat.le_trans hBW hb1.size; have HI2 := Lib.hid (HI1.out.under HR.out (hb1.mono hBW)); clear x0 x1 x2 x3 x4 x5 hb1; obtain ⟨x0, x1, x2, x3, x4, x5⟩ := pg1.six)
  go_upto_region 4 with (go_at_call 76; refine (wbyte_w B b bs 40 _ HB1.out (by omega) hB1).mono ?_; rintro e w2 ⟨rfl, h2, hb2, hk2⟩)
  have pg2 : Blk w2 g 28 #[.int .i64 21, .string nm, .slice A1 n1 c1, .bool ng, .slice A2 n2 c2, .slice A3 n3 c3] := hk2 g _ pg1 (by simpa using hgb) (fun c fz e => by injection e with _ e _; exact absurd e (by decide))
  have HBW2 := Lib.hid (HBW1.out.trans hb2)
  have HK2 := Lib.hid (HK1.out.trans hk2)
  have hB2 : B ≤ w2.heap.size := Nat.le_trans hB1 hb2.size
  have HI3 := Lib.hid (HI2.out.under HR.out hb2)
  have H2 := Lib.hid h2
  have hl2 : (bs ++ [Value.int .u8 40]).length + (bodyB true t).length ≤ 140737488355328 := by rw [List.length_append]; simp only [List.length_cons, List.length_nil]; omega
  have hl3 : ((bs ++ [Value.int .u8 40]) ++ Lib.byteCells (bodyB true t)).length + 1 ≤ 140737488355328 := by rw [List.length_append, List.length_append, Lib.byteCells_length]; simp only [List.length_cons, List.length_nil]; omega
  clear x0 x1 x2 x3 x4 x5 h2 hb2 hk2 ps pg1
  obtain ⟨x0, x1, x2, x3, x4, x5⟩ := pg2.six
  go_upto_region 5 with (go_at_call 43; refine (HW.out B b (bs ++ [Value.int .u8 40]) 1 true _ R _ (by decide) HNP.out HI3.out HR.out (.inr H2.out) hl2 hB2).mono ?_; rintro e w3 ⟨rfl, h3, hb3, hk3⟩)
  go_wp2_with (go_at_call 76; refine (wbyte_w B b _ 41 _ (.inr h3) hl3 (Nat.le_trans hB2 hb3.size)).mono ?_; rintro e w4 ⟨rfl, h4, hb4, hk4⟩)
  refine bodyPost_ret (results_none rfl _ _ _) rfl ?_
  exact ⟨rfl, h4, (HBW2.out.trans hb3).trans hb4, (HK2.out.trans hk3).trans hk4⟩
set_option maxHeartbeats 3200000 in
set_option maxRecDepth 100000 in
theorem form_par_22 (t : T) (hk : t.k = 22) (hw : BodyW t) (B b : Nat) (bs : List Value) (least : Nat) (hl : least ≤ 5)  (w : World) (R : Nat → Prop) (v : Value) (h : T.In w R t v) (hR : ∀ g, R g → g < B) (hIs : Lib.IsBuilder TW TB B b bs w)
    (hlen : bs.length + (bodyB true t).length + 2 ≤ 140737488355328) (hBw : B ≤ w.heap.size) :
    Calls Tryz.prog 43 #[.pointer (some ⟨b, 0, none⟩), v, .int .i64 (least : Nat), .bool false] w fun e w' => e = .returned (.tuple #[]) ∧ (Lib.BuilderAt TW TB B b (.pointer (some ⟨b, 0, none⟩)) (((bs ++ [Value.int .u8 40]) ++ Lib.byteCells (bodyB true t)) ++ [Value.int .u8 41]) w' ∧ Below B w w' ∧ Lib.OthersKept TB (some b) w w') := by
  have HW := Lib.hid hw
  have hnp : ¬ (P.level t.k < 1 ∨ (P.binds t.k = true ∧ true = false)) := by rw [hk]; decide
  have HNP := Lib.hid hnp
  clear hw hnp
  have d1 : decide ((5 : Int) < (least : Int)) = false := by simp; omega
  have hIn := h
  obtain ⟨A1, c1, A2, c2, A3, c3, rfl, _⟩ := h.form
  obtain ⟨nm, hnm⟩ : ∃ x, t.nm = x := ⟨_, rfl⟩
  obtain ⟨ng, hng⟩ : ∃ x, t.ng = x := ⟨_, rfl⟩
  obtain ⟨n1, hn1⟩ : ∃ x, t.ns.length = x := ⟨_, rfl⟩
  obtain ⟨n2, hn2⟩ : ∃ x, t.mg.length = x := ⟨_, rfl⟩
  obtain ⟨n3, hn3⟩ : ∃ x, t.ks.length = x := ⟨_, rfl⟩
  rw [hk, hnm, hng, hn1, hn2, hn3] at hIn ⊢
  clear h hnm hng hn1 hn2 hn3
  unfold tv at hIn ⊢
  go_enter Tryz.func43, Tryz.ntmps43
  go_upto_region 1 with (fail)
  obtain ⟨W, hW, ps, hbW⟩ := made_blk w #[.int .i64 22, .string nm, .slice A1 n1 c1, .bool ng, .slice A2 n2 c2, .slice A3 n3 c3] 28
  obtain ⟨g, hg⟩ : ∃ g, g = w.heap.size := ⟨_, rfl⟩
  have HB : Hid (Lib.IsBuilder TW TB B b bs W) := Lib.hid (hW ▸ isB_alloc hIs _)
  have HK : Hid (Lib.OthersKept TB (some b) w W) := Lib.hid (hW ▸ (Lib.OthersKept.refl TB (some b) w).alloc _)
  have hBW : B ≤ W.heap.size := Nat.le_trans hBw hbW.size
  have HBW := Lib.hid (hbW.mono hBw)
  have HI1 := Lib.hid (hIn.under hR (hbW.mono hBw))
  have HR := Lib.hid hR
  rw [← hW, ← hg]
  rw [← hg] at ps
  have hgb : g ≠ b := by have := below_IsB hIs; omega
  clear hW hbW hIs hBw hg hIn hR
  obtain ⟨x0, x1, x2, x3, x4, x5⟩ := ps.six
  go_upto_region 3 with (go_at_call 75; refine (level_22 nm A1 n1 c1 ng A2 n2 c2 A3 n3 c3 W).mono ?_; rintro e w1 ⟨rfl, hb1⟩; have pg1 : Blk w1 g 28 #[.int .i64 22, .string nm, .slice A1 n1 c1, .bool ng, .slice A2 n2 c2, .slice A3 n3 c3] := ok_below hb1 g _ ps (by simpa using hgb) (fun c fz e => by injection e with _ e _; exact absurd e (by decide)); have HB1 := Lib.hid (isB_below HB.out hb1); have HBW1 := Lib.hid (HBW.out.trans (hb1.mono hBW)); have HK1 := Lib.hid (HK.out.trans (ok_below hb1)); have hB1 : B ≤ w1.heap.size := Nat.le_trans hBW hb1.size; have HI2 := Lib.hid (HI1.out.under HR.out (hb1.mono hBW)); clear x0 x1 x2 x3 x4 x5 hb1; obtain ⟨x0, x1, x2, x3, x4, x5⟩ := pg1.six)
  go_upto_region 4 with (go_at_call 76; refine (wbyte_w B b bs 40 _ HB1.out (by omega) hB1).mono ?_; rintro e w2 ⟨rfl, h2, hb2, hk2⟩)
  have pg2 : Blk w2 g 28 #[.int .i64 22, .string nm, .slice A1 n1 c1, .bool ng, .slice A2 n2 c2, .slice A3 n3 c3] := hk2 g _ pg1 (by simpa using hgb) (fun c fz e => by injection e with _ e _; exact absurd e (by decide))
  have HBW2 := Lib.hid (HBW1.out.trans hb2)
  have HK2 := Lib.hid (HK1.out.trans hk2)
  have hB2 : B ≤ w2.heap.size := Nat.le_trans hB1 hb2.size
  have HI3 := Lib.hid (HI2.out.under HR.out hb2)
  have H2 := Lib.hid h2
  have hl2 : (bs ++ [Value.int .u8 40]).length + (bodyB true t).length ≤ 140737488355328 := by rw [List.length_append]; simp only [List.length_cons, List.length_nil]; omega
  have hl3 : ((bs ++ [Value.int .u8 40]) ++ Lib.byteCells (bodyB true t)).length + 1 ≤ 140737488355328 := by rw [List.length_append, List.length_append, Lib.byteCells_length]; simp only [List.length_cons, List.length_nil]; omega
  clear x0 x1 x2 x3 x4 x5 h2 hb2 hk2 ps pg1
  obtain ⟨x0, x1, x2, x3, x4, x5⟩ := pg2.six
  go_upto_region 5 with (go_at_call 43; refine (HW.out B b (bs ++ [Value.int .u8 40]) 1 true _ R _ (by decide) HNP.out HI3.out HR.out (.inr H2.out) hl2 hB2).mono ?_; rintro e w3 ⟨rfl, h3, hb3, hk3⟩)
  go_wp2_with (go_at_call 76; refine (wbyte_w B b _ 41 _ (.inr h3) hl3 (Nat.le_trans hB2 hb3.size)).mono ?_; rintro e w4 ⟨rfl, h4, hb4, hk4⟩)
  refine bodyPost_ret (results_none rfl _ _ _) rfl ?_
  exact ⟨rfl, h4, (HBW2.out.trans hb3).trans hb4, (HK2.out.trans hk3).trans hk4⟩
end Go.Proofs.YthiadenmljbdaaaGreatDoor
end

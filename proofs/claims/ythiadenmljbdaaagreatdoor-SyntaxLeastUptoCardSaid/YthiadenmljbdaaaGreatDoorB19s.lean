/-
  s: the parts WAdd WSub WAdd1 WSub1 WTerm WLeaf of the proof.
-/
import Derived.Test.YthiadenmljbdaaaGreatDoorB18s
section
namespace Go.Proofs.YthiadenmljbdaaaGreatDoor
open Go.RowKit Go.Shelf
attribute [local go_sem] Oper.semAt_some
set_option maxHeartbeats 1600000 in
set_option maxRecDepth 100000 in
theorem term_add0 (t u : T) (iht : TermW t) (ihu : TermW u) (B b : Nat) (bs : List Value) (w : World) (R : Nat → Prop) (v : Value) (h : T.In w R (P.nd 4 [t, u]) v) (hR : ∀ g, R g → g < B) (hIs : Lib.IsBuilder TW TB B b bs w)
    (hlen : bs.length + ((termB t false).length + (3 + (termB u true).length)) ≤ 140737488355328) (hBw : B ≤ w.heap.size) :
    Calls Tryz.prog 115 #[.pointer (some ⟨b, 0, none⟩), v, .bool false] w fun e w' => e = .returned (.tuple #[]) ∧ (Lib.BuilderAt TW TB B b (.pointer (some ⟨b, 0, none⟩)) (((bs ++ Lib.byteCells (termB t false)) ++ Lib.strCells ⟨#[32, 43, 32]⟩) ++ Lib.byteCells (termB u true)) w' ∧ Below B w w' ∧ Lib.OthersKept TB (some b) w w') := by
  rw [P.nd, T.In] at h
  obtain ⟨A1, c1, A2, c2, A3, c3, rfl, _, _, hc3, hk⟩ := h
  obtain ⟨kb, ko, rfl, hRk, hI⟩ := hk (by simp)
  rw [T.Ins, T.Ins] at hI
  obtain ⟨⟨v0, v1, v2, v3, v4, v5, h6, hI0⟩, ⟨u0, u1, u2, u3, u4, u5, k6, hJ0⟩, _⟩ := hI
  have hkB := hR kb hRk
  have IHT := Lib.hid iht
  have IHU := Lib.hid ihu
  have H6 := Lib.hid h6
  have K6 := Lib.hid k6
  have HI := Lib.hid hI0
  have HJ := Lib.hid hJ0
  have HR := Lib.hid hR
  clear iht ihu h6 hI0 k6 hJ0 hR hk
  unfold tv
  simp only [List.length_nil, List.length_cons, Nat.zero_add, Nat.reduceAdd]
  refine calls_of_wp_defers Tryz.func115 rfl ?_
  simp only [Tryz.ntmps115, List.size_toArray, List.length_cons, List.length_nil, Nat.reduceAdd, Nat.reduceSub, Array.replicate_succ, Array.replicate_zero, List.push_toArray, List.append_toArray, List.nil_append, List.cons_append]
  have HP := hp_term (fun e w' => e = .returned (.tuple #[]) ∧ (Lib.BuilderAt TW TB B b (.pointer (some ⟨b, 0, none⟩)) (((bs ++ Lib.byteCells (termB t false)) ++ Lib.strCells ⟨#[32, 43, 32]⟩) ++ Lib.byteCells (termB u true)) w' ∧ Below B w w' ∧ Lib.OthersKept TB (some b) w w'))
  generalize hQ : bodyPostD Tryz.prog Tryz.f115 _ = Q at HP ⊢
  have HQ := Lib.hid hQ
  clear hQ
  go_upto_region 6 with (fail)
  obtain ⟨W, hW, ps, hbW⟩ := made_blk w #[.int .i64 4, .string ⟨#[]⟩, .slice A1 0 c1, .bool false, .slice A2 0 c2, .slice (some ⟨kb, ko, none⟩) 2 c3] 28
  obtain ⟨g, hg⟩ : ∃ g, g = w.heap.size := ⟨_, rfl⟩
  have HB : Hid (Lib.IsBuilder TW TB B b bs W) := Lib.hid (hW ▸ isB_alloc hIs _)
  have HK : Hid (Lib.OthersKept TB (some b) w W) := Lib.hid (hW ▸ (Lib.OthersKept.refl TB (some b) w).alloc _)
  have hBW : B ≤ W.heap.size := Nat.le_trans hBw hbW.size
  have HBW := Lib.hid (hbW.mono hBw)
  rw [← hW, ← hg]
  rw [← hg] at ps
  have hgb : g ≠ b := by
    have : b < w.heap.size := by rcases hIs with h' | h' <;> exact h'.lt
    omega
  clear hW hbW hIs hBw hg
  obtain ⟨x0, x1, x2, x3, x4, x5⟩ := ps.six
  obtain ⟨y0, y1, y2, y3, y4, y5⟩ := H6.out.keep (fun p v hp hc => (HBW.out.cell (by rw [hp]; exact hkB)).trans hc)
  have HI1 := Lib.hid (HI.out.under HR.out HBW.out)
  have hl1 : bs.length + (termB t false).length ≤ 140737488355328 := by omega
  have HPS := Lib.hid ps
  clear ps
  go_upto_region 7 with (go_at_call 115; refine (IHT.out B b bs false _ R _ HI1.out HR.out HB.out hl1 hBW).mono ?_; rintro e w1 ⟨rfl, h1, hb1, hk1⟩)
  have pg : Blk w1 g 28 #[.int .i64 4, .string ⟨#[]⟩, .slice A1 0 c1, .bool false, .slice A2 0 c2, .slice (some ⟨kb, ko, none⟩) 2 c3] := hk1 g _ HPS.out (by simpa using hgb) (fun c fz e => by injection e with _ e _; exact absurd e (by decide))
  have HBB := Lib.hid (HBW.out.trans hb1)
  have HK1 := Lib.hid (HK.out.trans hk1)
  have hB1 : B ≤ w1.heap.size := Nat.le_trans hBW hb1.size
  clear x0 x1 x2 x3 x4 x5 y0 y1 y2 y3 y4 y5
  obtain ⟨x0, x1, x2, x3, x4, x5⟩ := pg.six
  have H1 := Lib.hid h1
  have HPG := Lib.hid pg
  have hl2 : (bs ++ Lib.byteCells (termB t false)).length + (⟨#[32, 43, 32]⟩ : ByteArray).size ≤ 140737488355328 := by rw [List.length_append, Lib.byteCells_length]; have : (⟨#[32, 43, 32]⟩ : ByteArray).size = 3 := rfl; omega
  have hl3 : ((bs ++ Lib.byteCells (termB t false)) ++ Lib.strCells ⟨#[32, 43, 32]⟩).length + (termB u true).length ≤ 140737488355328 := by rw [List.length_append, List.length_append, Lib.byteCells_length, Lib.strCells_length]; have : (⟨#[32, 43, 32]⟩ : ByteArray).size = 3 := rfl; omega
  clear h1 hk1 hb1 pg
  go_wp2_with (first
    | (go_at_call 115; refine (IHU.out B b ((bs ++ Lib.byteCells (termB t false)) ++ Lib.strCells ⟨#[32, 43, 32]⟩) true _ R _ HJ3.out HR.out (.inr H3.out) hl3 hB3).mono ?_; rintro e w4 ⟨rfl, h4, hb4, hk4⟩)
    | (go_at_call 78; refine (wstr_w B b (bs ++ Lib.byteCells (termB t false)) ⟨#[32, 43, 32]⟩ _ (.inr H1.out) hl2 hB1).mono ?_; rintro e w3 ⟨rfl, h3, hb3, hk3⟩; have pg3 : Blk w3 g 28 #[.int .i64 4, .string ⟨#[]⟩, .slice A1 0 c1, .bool false, .slice A2 0 c2, .slice (some ⟨kb, ko, none⟩) 2 c3] := hk3 g _ HPG.out (by simpa using hgb) (fun c fz e => by injection e with _ e _; exact absurd e (by decide)); have HB3 := Lib.hid (HBB.out.trans hb3); have HK3 := Lib.hid (HK1.out.trans hk3); have hB3 : B ≤ w3.heap.size := Nat.le_trans hB1 hb3.size; have H3 := Lib.hid h3; have HJ3 := Lib.hid (HJ.out.under HR.out HB3.out); clear x0 x1 x2 x3 x4 x5 h3 hk3 hb3; obtain ⟨x0, x1, x2, x3, x4, x5⟩ := pg3.six; obtain ⟨y0, y1, y2, y3, y4, y5⟩ := K6.out.keep (fun p v hp hc => (HB3.out.cell (by rw [hp]; exact hkB)).trans hc)))
  rw [← HQ.out]
  exact ⟨_, results_no (by kernel_rfl) _ _, rfl, h4, HB3.out.trans hb4, HK3.out.trans hk4⟩
end Go.Proofs.YthiadenmljbdaaaGreatDoor
end
section
namespace Go.Proofs.YthiadenmljbdaaaGreatDoor
open Go.RowKit Go.Shelf
attribute [local go_sem] Oper.semAt_some
set_option maxHeartbeats 1600000 in
set_option maxRecDepth 100000 in
theorem term_sub0 (t u : T) (iht : TermW t) (ihu : TermW u) (B b : Nat) (bs : List Value) (w : World) (R : Nat → Prop) (v : Value) (h : T.In w R (P.nd 5 [t, u]) v) (hR : ∀ g, R g → g < B) (hIs : Lib.IsBuilder TW TB B b bs w)
    (hlen : bs.length + ((termB t false).length + (3 + (termB u true).length)) ≤ 140737488355328) (hBw : B ≤ w.heap.size) :
    Calls Tryz.prog 115 #[.pointer (some ⟨b, 0, none⟩), v, .bool false] w fun e w' => e = .returned (.tuple #[]) ∧ (Lib.BuilderAt TW TB B b (.pointer (some ⟨b, 0, none⟩)) (((bs ++ Lib.byteCells (termB t false)) ++ Lib.strCells ⟨#[32, 45, 32]⟩) ++ Lib.byteCells (termB u true)) w' ∧ Below B w w' ∧ Lib.OthersKept TB (some b) w w') := by
  rw [P.nd, T.In] at h
  obtain ⟨A1, c1, A2, c2, A3, c3, rfl, _, _, hc3, hk⟩ := h
  obtain ⟨kb, ko, rfl, hRk, hI⟩ := hk (by simp)
  rw [T.Ins, T.Ins] at hI
  obtain ⟨⟨v0, v1, v2, v3, v4, v5, h6, hI0⟩, ⟨u0, u1, u2, u3, u4, u5, k6, hJ0⟩, _⟩ := hI
  have hkB := hR kb hRk
  have IHT := Lib.hid iht
  have IHU := Lib.hid ihu
  have H6 := Lib.hid h6
  have K6 := Lib.hid k6
  have HI := Lib.hid hI0
  have HJ := Lib.hid hJ0
  have HR := Lib.hid hR
  clear iht ihu h6 hI0 k6 hJ0 hR hk
  unfold tv
  simp only [List.length_nil, List.length_cons, Nat.zero_add, Nat.reduceAdd]
  refine calls_of_wp_defers Tryz.func115 rfl ?_
  simp only [Tryz.ntmps115, List.size_toArray, List.length_cons, List.length_nil, Nat.reduceAdd, Nat.reduceSub, Array.replicate_succ, Array.replicate_zero, List.push_toArray, List.append_toArray, List.nil_append, List.cons_append]
  have HP := hp_term (fun e w' => e = .returned (.tuple #[]) ∧ (Lib.BuilderAt TW TB B b (.pointer (some ⟨b, 0, none⟩)) (((bs ++ Lib.byteCells (termB t false)) ++ Lib.strCells ⟨#[32, 45, 32]⟩) ++ Lib.byteCells (termB u true)) w' ∧ Below B w w' ∧ Lib.OthersKept TB (some b) w w'))
  generalize hQ : bodyPostD Tryz.prog Tryz.f115 _ = Q at HP ⊢
  have HQ := Lib.hid hQ
  clear hQ
  go_upto_region 6 with (fail)
  obtain ⟨W, hW, ps, hbW⟩ := made_blk w #[.int .i64 5, .string ⟨#[]⟩, .slice A1 0 c1, .bool false, .slice A2 0 c2, .slice (some ⟨kb, ko, none⟩) 2 c3] 28
  obtain ⟨g, hg⟩ : ∃ g, g = w.heap.size := ⟨_, rfl⟩
  have HB : Hid (Lib.IsBuilder TW TB B b bs W) := Lib.hid (hW ▸ isB_alloc hIs _)
  have HK : Hid (Lib.OthersKept TB (some b) w W) := Lib.hid (hW ▸ (Lib.OthersKept.refl TB (some b) w).alloc _)
  have hBW : B ≤ W.heap.size := Nat.le_trans hBw hbW.size
  have HBW := Lib.hid (hbW.mono hBw)
  rw [← hW, ← hg]
  rw [← hg] at ps
  have hgb : g ≠ b := by
    have : b < w.heap.size := by rcases hIs with h' | h' <;> exact h'.lt
    omega
  clear hW hbW hIs hBw hg
  obtain ⟨x0, x1, x2, x3, x4, x5⟩ := ps.six
  obtain ⟨y0, y1, y2, y3, y4, y5⟩ := H6.out.keep (fun p v hp hc => (HBW.out.cell (by rw [hp]; exact hkB)).trans hc)
  have HI1 := Lib.hid (HI.out.under HR.out HBW.out)
  have hl1 : bs.length + (termB t false).length ≤ 140737488355328 := by omega
  have HPS := Lib.hid ps
  clear ps
  go_upto_region 7 with (go_at_call 115; refine (IHT.out B b bs false _ R _ HI1.out HR.out HB.out hl1 hBW).mono ?_; rintro e w1 ⟨rfl, h1, hb1, hk1⟩)
  have pg : Blk w1 g 28 #[.int .i64 5, .string ⟨#[]⟩, .slice A1 0 c1, .bool false, .slice A2 0 c2, .slice (some ⟨kb, ko, none⟩) 2 c3] := hk1 g _ HPS.out (by simpa using hgb) (fun c fz e => by injection e with _ e _; exact absurd e (by decide))
  have HBB := Lib.hid (HBW.out.trans hb1)
  have HK1 := Lib.hid (HK.out.trans hk1)
  have hB1 : B ≤ w1.heap.size := Nat.le_trans hBW hb1.size
  clear x0 x1 x2 x3 x4 x5 y0 y1 y2 y3 y4 y5
  obtain ⟨x0, x1, x2, x3, x4, x5⟩ := pg.six
  have H1 := Lib.hid h1
  have HPG := Lib.hid pg
  have hl2 : (bs ++ Lib.byteCells (termB t false)).length + (⟨#[32, 45, 32]⟩ : ByteArray).size ≤ 140737488355328 := by rw [List.length_append, Lib.byteCells_length]; have : (⟨#[32, 45, 32]⟩ : ByteArray).size = 3 := rfl; omega
  have hl3 : ((bs ++ Lib.byteCells (termB t false)) ++ Lib.strCells ⟨#[32, 45, 32]⟩).length + (termB u true).length ≤ 140737488355328 := by rw [List.length_append, List.length_append, Lib.byteCells_length, Lib.strCells_length]; have : (⟨#[32, 45, 32]⟩ : ByteArray).size = 3 := rfl; omega
  clear h1 hk1 hb1 pg
  go_wp2_with (first
    | (go_at_call 115; refine (IHU.out B b ((bs ++ Lib.byteCells (termB t false)) ++ Lib.strCells ⟨#[32, 45, 32]⟩) true _ R _ HJ3.out HR.out (.inr H3.out) hl3 hB3).mono ?_; rintro e w4 ⟨rfl, h4, hb4, hk4⟩)
    | (go_at_call 78; refine (wstr_w B b (bs ++ Lib.byteCells (termB t false)) ⟨#[32, 45, 32]⟩ _ (.inr H1.out) hl2 hB1).mono ?_; rintro e w3 ⟨rfl, h3, hb3, hk3⟩; have pg3 : Blk w3 g 28 #[.int .i64 5, .string ⟨#[]⟩, .slice A1 0 c1, .bool false, .slice A2 0 c2, .slice (some ⟨kb, ko, none⟩) 2 c3] := hk3 g _ HPG.out (by simpa using hgb) (fun c fz e => by injection e with _ e _; exact absurd e (by decide)); have HB3 := Lib.hid (HBB.out.trans hb3); have HK3 := Lib.hid (HK1.out.trans hk3); have hB3 : B ≤ w3.heap.size := Nat.le_trans hB1 hb3.size; have H3 := Lib.hid h3; have HJ3 := Lib.hid (HJ.out.under HR.out HB3.out); clear x0 x1 x2 x3 x4 x5 h3 hk3 hb3; obtain ⟨x0, x1, x2, x3, x4, x5⟩ := pg3.six; obtain ⟨y0, y1, y2, y3, y4, y5⟩ := K6.out.keep (fun p v hp hc => (HB3.out.cell (by rw [hp]; exact hkB)).trans hc)))
  rw [← HQ.out]
  exact ⟨_, results_no (by kernel_rfl) _ _, rfl, h4, HB3.out.trans hb4, HK3.out.trans hk4⟩
end Go.Proofs.YthiadenmljbdaaaGreatDoor
end
section
namespace Go.Proofs.YthiadenmljbdaaaGreatDoor
open Go.RowKit Go.Shelf
attribute [local go_sem] Oper.semAt_some
set_option maxHeartbeats 1600000 in
set_option maxRecDepth 100000 in
theorem term_add1 (t u : T) (iht : TermW t) (ihu : TermW u) (B b : Nat) (bs : List Value) (w : World) (R : Nat → Prop) (v : Value) (h : T.In w R (P.nd 4 [t, u]) v) (hR : ∀ g, R g → g < B) (hIs : Lib.IsBuilder TW TB B b bs w)
    (hlen : bs.length + ((termB t false).length + (3 + (termB u true).length)) + 2 ≤ 140737488355328) (hBw : B ≤ w.heap.size) :
    Calls Tryz.prog 115 #[.pointer (some ⟨b, 0, none⟩), v, .bool true] w fun e w' => e = .returned (.tuple #[]) ∧ (Lib.BuilderAt TW TB B b (.pointer (some ⟨b, 0, none⟩)) (((((bs ++ [Value.int .u8 40]) ++ Lib.byteCells (termB t false)) ++ Lib.strCells ⟨#[32, 43, 32]⟩) ++ Lib.byteCells (termB u true)) ++ [Value.int .u8 41]) w' ∧ Below B w w' ∧ Lib.OthersKept TB (some b) w w') := by
  rw [P.nd, T.In] at h
  obtain ⟨A1, c1, A2, c2, A3, c3, rfl, _, _, hc3, hk⟩ := h
  obtain ⟨kb, ko, rfl, hRk, hI⟩ := hk (by simp)
  rw [T.Ins, T.Ins] at hI
  obtain ⟨⟨v0, v1, v2, v3, v4, v5, h6, hI0⟩, ⟨u0, u1, u2, u3, u4, u5, k6, hJ0⟩, _⟩ := hI
  have hkB := hR kb hRk
  have IHT := Lib.hid iht
  have IHU := Lib.hid ihu
  have H6 := Lib.hid h6
  have K6 := Lib.hid k6
  have HI := Lib.hid hI0
  have HJ := Lib.hid hJ0
  have HR := Lib.hid hR
  clear iht ihu h6 hI0 k6 hJ0 hR hk
  unfold tv
  simp only [List.length_nil, List.length_cons, Nat.zero_add, Nat.reduceAdd]
  refine calls_of_wp_defers Tryz.func115 rfl ?_
  simp only [Tryz.ntmps115, List.size_toArray, List.length_cons, List.length_nil, Nat.reduceAdd, Nat.reduceSub, Array.replicate_succ, Array.replicate_zero, List.push_toArray, List.append_toArray, List.nil_append, List.cons_append]
  have HP := hp_term (fun e w' => e = .returned (.tuple #[]) ∧ (Lib.BuilderAt TW TB B b (.pointer (some ⟨b, 0, none⟩)) (((((bs ++ [Value.int .u8 40]) ++ Lib.byteCells (termB t false)) ++ Lib.strCells ⟨#[32, 43, 32]⟩) ++ Lib.byteCells (termB u true)) ++ [Value.int .u8 41]) w' ∧ Below B w w' ∧ Lib.OthersKept TB (some b) w w'))
  generalize hQ : bodyPostD Tryz.prog Tryz.f115 _ = Q at HP ⊢
  have HQ := Lib.hid hQ
  clear hQ
  go_upto_region 3 with (fail)
  obtain ⟨W, hW, ps, hbW⟩ := made_blk w #[.int .i64 4, .string ⟨#[]⟩, .slice A1 0 c1, .bool false, .slice A2 0 c2, .slice (some ⟨kb, ko, none⟩) 2 c3] 28
  obtain ⟨g, hg⟩ : ∃ g, g = w.heap.size := ⟨_, rfl⟩
  have HB : Hid (Lib.IsBuilder TW TB B b bs W) := Lib.hid (hW ▸ isB_alloc hIs _)
  have HK : Hid (Lib.OthersKept TB (some b) w W) := Lib.hid (hW ▸ (Lib.OthersKept.refl TB (some b) w).alloc _)
  have hBW : B ≤ W.heap.size := Nat.le_trans hBw hbW.size
  have HBW := Lib.hid (hbW.mono hBw)
  rw [← hW, ← hg]
  rw [← hg] at ps
  have hgb : g ≠ b := by
    have : b < w.heap.size := by rcases hIs with h' | h' <;> exact h'.lt
    omega
  clear hW hbW hIs hBw hg
  obtain ⟨x0, x1, x2, x3, x4, x5⟩ := ps.six
  go_upto_region 6 with (go_at_call 76; refine (wbyte_w B b bs 40 _ HB.out (by omega) hBW).mono ?_; rintro e V ⟨rfl, h0, hb0, hk0⟩; have pv : Blk V g 28 #[.int .i64 4, .string ⟨#[]⟩, .slice A1 0 c1, .bool false, .slice A2 0 c2, .slice (some ⟨kb, ko, none⟩) 2 c3] := hk0 g _ ps (by simpa using hgb) (fun c fz e => by injection e with _ e _; exact absurd e (by decide)); clear x0 x1 x2 x3 x4 x5; obtain ⟨x0, x1, x2, x3, x4, x5⟩ := pv.six)
  replace HBW := Lib.hid (HBW.out.trans hb0)
  replace HK := Lib.hid (HK.out.trans hk0)
  have hBV : B ≤ V.heap.size := Nat.le_trans hBW hb0.size
  clear hBW HB ps
  have hBW := hBV
  have ps := pv
  have HB := Lib.hid (show Lib.IsBuilder TW TB B b (bs ++ [Value.int .u8 40]) V from .inr h0)
  obtain ⟨bs2, hbs2⟩ : ∃ l, bs ++ [Value.int .u8 40] = l := ⟨_, rfl⟩
  have hlb : bs2.length = bs.length + 1 := by rw [← hbs2]; simp
  rw [hbs2] at HB
  have HBS := Lib.hid hbs2
  clear h0 hb0 hk0 pv hBV hbs2
  obtain ⟨y0, y1, y2, y3, y4, y5⟩ := H6.out.keep (fun p v hp hc => (HBW.out.cell (by rw [hp]; exact hkB)).trans hc)
  have HI1 := Lib.hid (HI.out.under HR.out HBW.out)
  have hl1 : bs2.length + (termB t false).length ≤ 140737488355328 := by omega
  have HPS := Lib.hid ps
  clear ps
  go_upto_region 7 with (go_at_call 115; refine (IHT.out B b bs2 false _ R _ HI1.out HR.out HB.out hl1 hBW).mono ?_; rintro e w1 ⟨rfl, h1, hb1, hk1⟩)
  have pg : Blk w1 g 28 #[.int .i64 4, .string ⟨#[]⟩, .slice A1 0 c1, .bool false, .slice A2 0 c2, .slice (some ⟨kb, ko, none⟩) 2 c3] := hk1 g _ HPS.out (by simpa using hgb) (fun c fz e => by injection e with _ e _; exact absurd e (by decide))
  have HBB := Lib.hid (HBW.out.trans hb1)
  have HK1 := Lib.hid (HK.out.trans hk1)
  have hB1 : B ≤ w1.heap.size := Nat.le_trans hBW hb1.size
  clear x0 x1 x2 x3 x4 x5 y0 y1 y2 y3 y4 y5
  obtain ⟨x0, x1, x2, x3, x4, x5⟩ := pg.six
  have H1 := Lib.hid h1
  have HPG := Lib.hid pg
  have hl2 : (bs2 ++ Lib.byteCells (termB t false)).length + (⟨#[32, 43, 32]⟩ : ByteArray).size ≤ 140737488355328 := by rw [List.length_append, Lib.byteCells_length]; have : (⟨#[32, 43, 32]⟩ : ByteArray).size = 3 := rfl; omega
  have hl3 : ((bs2 ++ Lib.byteCells (termB t false)) ++ Lib.strCells ⟨#[32, 43, 32]⟩).length + (termB u true).length ≤ 140737488355328 := by rw [List.length_append, List.length_append, Lib.byteCells_length, Lib.strCells_length]; have : (⟨#[32, 43, 32]⟩ : ByteArray).size = 3 := rfl; omega
  clear h1 hk1 hb1 pg
  go_wp2_with (first
    | (go_at_call 115; refine (IHU.out B b ((bs2 ++ Lib.byteCells (termB t false)) ++ Lib.strCells ⟨#[32, 43, 32]⟩) true _ R _ HJ3.out HR.out (.inr H3.out) hl3 hB3).mono ?_; rintro e w4 ⟨rfl, h4, hb4, hk4⟩)
    | (go_at_call 78; refine (wstr_w B b (bs2 ++ Lib.byteCells (termB t false)) ⟨#[32, 43, 32]⟩ _ (.inr H1.out) hl2 hB1).mono ?_; rintro e w3 ⟨rfl, h3, hb3, hk3⟩; have pg3 : Blk w3 g 28 #[.int .i64 4, .string ⟨#[]⟩, .slice A1 0 c1, .bool false, .slice A2 0 c2, .slice (some ⟨kb, ko, none⟩) 2 c3] := hk3 g _ HPG.out (by simpa using hgb) (fun c fz e => by injection e with _ e _; exact absurd e (by decide)); have HB3 := Lib.hid (HBB.out.trans hb3); have HK3 := Lib.hid (HK1.out.trans hk3); have hB3 : B ≤ w3.heap.size := Nat.le_trans hB1 hb3.size; have H3 := Lib.hid h3; have HJ3 := Lib.hid (HJ.out.under HR.out HB3.out); clear x0 x1 x2 x3 x4 x5 h3 hk3 hb3; obtain ⟨x0, x1, x2, x3, x4, x5⟩ := pg3.six; obtain ⟨y0, y1, y2, y3, y4, y5⟩ := K6.out.keep (fun p v hp hc => (HB3.out.cell (by rw [hp]; exact hkB)).trans hc)))
  have hl5 : (((bs2 ++ Lib.byteCells (termB t false)) ++ Lib.strCells ⟨#[32, 43, 32]⟩) ++ Lib.byteCells (termB u true)).length + 1 ≤ 140737488355328 := by rw [List.length_append, List.length_append, List.length_append, Lib.byteCells_length, Lib.byteCells_length, Lib.strCells_length]; have : (⟨#[32, 43, 32]⟩ : ByteArray).size = 3 := rfl; omega
  rw [← HQ.out]
  refine leaves_cons (f := 76) (args := #[.pointer (some ⟨b, 0, none⟩), .int .u8 41]) (by simp) (by simp [go_sem]) ?_
  refine (wbyte_d B b _ 41 _ (.inr h4) hl5 (Nat.le_trans hB3 hb4.size) .returning).mono ?_
  rintro e u' w5 ⟨rfl, rfl, h5, hb5, hk5⟩
  refine ⟨_, results_no (by kernel_rfl) _ _, rfl, ?_, (HB3.out.trans hb4).trans hb5, (HK3.out.trans hk4).trans hk5⟩
  rw [HBS.out]; exact h5
end Go.Proofs.YthiadenmljbdaaaGreatDoor
end
section
namespace Go.Proofs.YthiadenmljbdaaaGreatDoor
open Go.RowKit Go.Shelf
attribute [local go_sem] Oper.semAt_some
set_option maxHeartbeats 1600000 in
set_option maxRecDepth 100000 in
theorem term_sub1 (t u : T) (iht : TermW t) (ihu : TermW u) (B b : Nat) (bs : List Value) (w : World) (R : Nat → Prop) (v : Value) (h : T.In w R (P.nd 5 [t, u]) v) (hR : ∀ g, R g → g < B) (hIs : Lib.IsBuilder TW TB B b bs w)
    (hlen : bs.length + ((termB t false).length + (3 + (termB u true).length)) + 2 ≤ 140737488355328) (hBw : B ≤ w.heap.size) :
    Calls Tryz.prog 115 #[.pointer (some ⟨b, 0, none⟩), v, .bool true] w fun e w' => e = .returned (.tuple #[]) ∧ (Lib.BuilderAt TW TB B b (.pointer (some ⟨b, 0, none⟩)) (((((bs ++ [Value.int .u8 40]) ++ Lib.byteCells (termB t false)) ++ Lib.strCells ⟨#[32, 45, 32]⟩) ++ Lib.byteCells (termB u true)) ++ [Value.int .u8 41]) w' ∧ Below B w w' ∧ Lib.OthersKept TB (some b) w w') := by
  rw [P.nd, T.In] at h
  obtain ⟨A1, c1, A2, c2, A3, c3, rfl, _, _, hc3, hk⟩ := h
  obtain ⟨kb, ko, rfl, hRk, hI⟩ := hk (by simp)
  rw [T.Ins, T.Ins] at hI
  obtain ⟨⟨v0, v1, v2, v3, v4, v5, h6, hI0⟩, ⟨u0, u1, u2, u3, u4, u5, k6, hJ0⟩, _⟩ := hI
  have hkB := hR kb hRk
  have IHT := Lib.hid iht
  have IHU := Lib.hid ihu
  have H6 := Lib.hid h6
  have K6 := Lib.hid k6
  have HI := Lib.hid hI0
  have HJ := Lib.hid hJ0
  have HR := Lib.hid hR
  clear iht ihu h6 hI0 k6 hJ0 hR hk
  unfold tv
  simp only [List.length_nil, List.length_cons, Nat.zero_add, Nat.reduceAdd]
  refine calls_of_wp_defers Tryz.func115 rfl ?_
  simp only [Tryz.ntmps115, List.size_toArray, List.length_cons, List.length_nil, Nat.reduceAdd, Nat.reduceSub, Array.replicate_succ, Array.replicate_zero, List.push_toArray, List.append_toArray, List.nil_append, List.cons_append]
  have HP := hp_term (fun e w' => e = .returned (.tuple #[]) ∧ (Lib.BuilderAt TW TB B b (.pointer (some ⟨b, 0, none⟩)) (((((bs ++ [Value.int .u8 40]) ++ Lib.byteCells (termB t false)) ++ Lib.strCells ⟨#[32, 45, 32]⟩) ++ Lib.byteCells (termB u true)) ++ [Value.int .u8 41]) w' ∧ Below B w w' ∧ Lib.OthersKept TB (some b) w w'))
  generalize hQ : bodyPostD Tryz.prog Tryz.f115 _ = Q at HP ⊢
  have HQ := Lib.hid hQ
  clear hQ
  go_upto_region 3 with (fail)
  obtain ⟨W, hW, ps, hbW⟩ := made_blk w #[.int .i64 5, .string ⟨#[]⟩, .slice A1 0 c1, .bool false, .slice A2 0 c2, .slice (some ⟨kb, ko, none⟩) 2 c3] 28
  obtain ⟨g, hg⟩ : ∃ g, g = w.heap.size := ⟨_, rfl⟩
  have HB : Hid (Lib.IsBuilder TW TB B b bs W) := Lib.hid (hW ▸ isB_alloc hIs _)
  have HK : Hid (Lib.OthersKept TB (some b) w W) := Lib.hid (hW ▸ (Lib.OthersKept.refl TB (some b) w).alloc _)
  have hBW : B ≤ W.heap.size := Nat.le_trans hBw hbW.size
  have HBW := Lib.hid (hbW.mono hBw)
  rw [← hW, ← hg]
  rw [← hg] at ps
  have hgb : g ≠ b := by
    have : b < w.heap.size := by rcases hIs with h' | h' <;> exact h'.lt
    omega
  clear hW hbW hIs hBw hg
  obtain ⟨x0, x1, x2, x3, x4, x5⟩ := ps.six
  go_upto_region 6 with (go_at_call 76; refine (wbyte_w B b bs 40 _ HB.out (by omega) hBW).mono ?_; rintro e V ⟨rfl, h0, hb0, hk0⟩; have pv : Blk V g 28 #[.int .i64 5, .string ⟨#[]⟩, .slice A1 0 c1, .bool false, .slice A2 0 c2, .slice (some ⟨kb, ko, none⟩) 2 c3] := hk0 g _ ps (by simpa using hgb) (fun c fz e => by injection e with _ e _; exact absurd e (by decide)); clear x0 x1 x2 x3 x4 x5; obtain ⟨x0, x1, x2, x3, x4, x5⟩ := pv.six)
  replace HBW := Lib.hid (HBW.out.trans hb0)
  replace HK := Lib.hid (HK.out.trans hk0)
  have hBV : B ≤ V.heap.size := Nat.le_trans hBW hb0.size
  clear hBW HB ps
  have hBW := hBV
  have ps := pv
  have HB := Lib.hid (show Lib.IsBuilder TW TB B b (bs ++ [Value.int .u8 40]) V from .inr h0)
  obtain ⟨bs2, hbs2⟩ : ∃ l, bs ++ [Value.int .u8 40] = l := ⟨_, rfl⟩
  have hlb : bs2.length = bs.length + 1 := by rw [← hbs2]; simp
  rw [hbs2] at HB
  have HBS := Lib.hid hbs2
  clear h0 hb0 hk0 pv hBV hbs2
  obtain ⟨y0, y1, y2, y3, y4, y5⟩ := H6.out.keep (fun p v hp hc => (HBW.out.cell (by rw [hp]; exact hkB)).trans hc)
  have HI1 := Lib.hid (HI.out.under HR.out HBW.out)
  have hl1 : bs2.length + (termB t false).length ≤ 140737488355328 := by omega
  have HPS := Lib.hid ps
  clear ps
  go_upto_region 7 with (go_at_call 115; refine (IHT.out B b bs2 false _ R _ HI1.out HR.out HB.out hl1 hBW).mono ?_; rintro e w1 ⟨rfl, h1, hb1, hk1⟩)
  have pg : Blk w1 g 28 #[.int .i64 5, .string ⟨#[]⟩, .slice A1 0 c1, .bool false, .slice A2 0 c2, .slice (some ⟨kb, ko, none⟩) 2 c3] := hk1 g _ HPS.out (by simpa using hgb) (fun c fz e => by injection e with _ e _; exact absurd e (by decide))
  have HBB := Lib.hid (HBW.out.trans hb1)
  have HK1 := Lib.hid (HK.out.trans hk1)
  have hB1 : B ≤ w1.heap.size := Nat.le_trans hBW hb1.size
  clear x0 x1 x2 x3 x4 x5 y0 y1 y2 y3 y4 y5
  obtain ⟨x0, x1, x2, x3, x4, x5⟩ := pg.six
  have H1 := Lib.hid h1
  have HPG := Lib.hid pg
  have hl2 : (bs2 ++ Lib.byteCells (termB t false)).length + (⟨#[32, 45, 32]⟩ : ByteArray).size ≤ 140737488355328 := by rw [List.length_append, Lib.byteCells_length]; have : (⟨#[32, 45, 32]⟩ : ByteArray).size = 3 := rfl; omega
  have hl3 : ((bs2 ++ Lib.byteCells (termB t false)) ++ Lib.strCells ⟨#[32, 45, 32]⟩).length + (termB u true).length ≤ 140737488355328 := by rw [List.length_append, List.length_append, Lib.byteCells_length, Lib.strCells_length]; have : (⟨#[32, 45, 32]⟩ : ByteArray).size = 3 := rfl; omega
  clear h1 hk1 hb1 pg
  go_wp2_with (first
    | (go_at_call 115; refine (IHU.out B b ((bs2 ++ Lib.byteCells (termB t false)) ++ Lib.strCells ⟨#[32, 45, 32]⟩) true _ R _ HJ3.out HR.out (.inr H3.out) hl3 hB3).mono ?_; rintro e w4 ⟨rfl, h4, hb4, hk4⟩)
    | (go_at_call 78; refine (wstr_w B b (bs2 ++ Lib.byteCells (termB t false)) ⟨#[32, 45, 32]⟩ _ (.inr H1.out) hl2 hB1).mono ?_; rintro e w3 ⟨rfl, h3, hb3, hk3⟩; have pg3 : Blk w3 g 28 #[.int .i64 5, .string ⟨#[]⟩, .slice A1 0 c1, .bool false, .slice A2 0 c2, .slice (some ⟨kb, ko, none⟩) 2 c3] := hk3 g _ HPG.out (by simpa using hgb) (fun c fz e => by injection e with _ e _; exact absurd e (by decide)); have HB3 := Lib.hid (HBB.out.trans hb3); have HK3 := Lib.hid (HK1.out.trans hk3); have hB3 : B ≤ w3.heap.size := Nat.le_trans hB1 hb3.size; have H3 := Lib.hid h3; have HJ3 := Lib.hid (HJ.out.under HR.out HB3.out); clear x0 x1 x2 x3 x4 x5 h3 hk3 hb3; obtain ⟨x0, x1, x2, x3, x4, x5⟩ := pg3.six; obtain ⟨y0, y1, y2, y3, y4, y5⟩ := K6.out.keep (fun p v hp hc => (HB3.out.cell (by rw [hp]; exact hkB)).trans hc)))
  have hl5 : (((bs2 ++ Lib.byteCells (termB t false)) ++ Lib.strCells ⟨#[32, 45, 32]⟩) ++ Lib.byteCells (termB u true)).length + 1 ≤ 140737488355328 := by rw [List.length_append, List.length_append, List.length_append, Lib.byteCells_length, Lib.byteCells_length, Lib.strCells_length]; have : (⟨#[32, 45, 32]⟩ : ByteArray).size = 3 := rfl; omega
  rw [← HQ.out]
  refine leaves_cons (f := 76) (args := #[.pointer (some ⟨b, 0, none⟩), .int .u8 41]) (by simp) (by simp [go_sem]) ?_
  refine (wbyte_d B b _ 41 _ (.inr h4) hl5 (Nat.le_trans hB3 hb4.size) .returning).mono ?_
  rintro e u' w5 ⟨rfl, rfl, h5, hb5, hk5⟩
  refine ⟨_, results_no (by kernel_rfl) _ _, rfl, ?_, (HB3.out.trans hb4).trans hb5, (HK3.out.trans hk4).trans hk5⟩
  rw [HBS.out]; exact h5
end Go.Proofs.YthiadenmljbdaaaGreatDoor
end
section
namespace Go.Proofs.YthiadenmljbdaaaGreatDoor
open Go.RowKit
open Go.Shelf
theorem termB_two (k : Int) (s : UInt8) (hk : k = 4 ∨ k = 5) (t u : T) (hb : P.body (P.nd k [t, u]) true = P.body t true ++ none :: P.Sg ⟨#[s]⟩ :: none :: P.tight (P.pt u)) :
    termB (P.nd k [t, u]) false = termB t false ++ ([32, s, 32] ++ termB u true) ∧ termB (P.nd k [t, u]) true = 40 :: ((termB t false ++ ([32, s, 32] ++ termB u true)) ++ [41]) := by
  have ht : P.tight (P.pt (P.nd k [t, u])) = P.par (P.body (P.nd k [t, u]) true) := by unfold P.tight; rw [if_pos (by exact hk)]; rfl
  have h1 : P.bytes (P.body (P.nd k [t, u]) true) = termB t false ++ ([32, s, 32] ++ termB u true) := by
    rw [hb, P.bytes_append, P.bytes_cons, P.bytes_cons, P.bytes_cons]
    rfl
  refine ⟨h1, ?_⟩
  unfold termB
  rw [if_pos rfl, ht]
  unfold P.par
  rw [P.bytes_cons, P.bytes_append, h1]
  simp only [P.bytes_cons, termB]
  rfl
theorem term_all {b : Bool} {t : T} (h : P.Wf b t) : b = false → t.bulk ≤ 1048576 → TermW t := by
  induction h with
  | num m hm => exact fun _ hbk => term_num m (by rw [P.bulk_no] at hbk; omega)
  | var s hs => exact fun _ _ => term_name s
  | neg t ht ih => exact fun _ hbk => term_neg t (ih rfl (by rw [P.nd, P.bulk_no, P.bulks_one] at hbk; omega))
  | mul m hm t ht ih => exact fun _ hbk => term_mul m (by rw [P.bulk_no] at hbk; omega) t (ih rfl (by rw [P.bulk_no, P.bulks_one] at hbk; omega))
  | add t u ht hu iht ihu =>
    refine fun _ hbk => ?_
    have hbt : t.bulk ≤ 1048576 ∧ u.bulk ≤ 1048576 := by rw [P.nd, P.bulk_no, P.bulks_cons, P.bulks_one] at hbk; omega
    have IT := iht rfl hbt.1
    have IU := ihu rfl hbt.2
    obtain ⟨e0, e1⟩ := termB_two 4 43 (by decide) t u (P.body_add t u)
    intro B b bs tg w R v h hR hIs hlen hBw
    cases tg
    · rw [e0] at hlen ⊢
      refine (term_add0 t u IT IU B b bs w R v h hR hIs (by simp only [List.length_append, List.length_cons, List.length_nil] at hlen; omega) hBw).mono ?_
      rintro e w' ⟨rfl, h1, hb, hk⟩
      refine ⟨rfl, ?_, hb, hk⟩
      have e : bs ++ Lib.byteCells (termB t false ++ ([32, 43, 32] ++ termB u true)) = ((bs ++ Lib.byteCells (termB t false)) ++ Lib.strCells ⟨#[32, 43, 32]⟩) ++ Lib.byteCells (termB u true) := by simp [Lib.byteCells, Lib.strCells]
      rw [e]; exact h1
    · rw [e1] at hlen ⊢
      refine (term_add1 t u IT IU B b bs w R v h hR hIs (by simp only [List.length_append, List.length_cons, List.length_nil] at hlen; omega) hBw).mono ?_
      rintro e w' ⟨rfl, h1, hb, hk⟩
      refine ⟨rfl, ?_, hb, hk⟩
      have e : bs ++ Lib.byteCells (40 :: ((termB t false ++ ([32, 43, 32] ++ termB u true)) ++ [41])) = ((((bs ++ [Value.int .u8 40]) ++ Lib.byteCells (termB t false)) ++ Lib.strCells ⟨#[32, 43, 32]⟩) ++ Lib.byteCells (termB u true)) ++ [Value.int .u8 41] := by simp [Lib.byteCells, Lib.strCells]
      rw [e]; exact h1
  | sub t u ht hu iht ihu =>
    refine fun _ hbk => ?_
    have hbt : t.bulk ≤ 1048576 ∧ u.bulk ≤ 1048576 := by rw [P.nd, P.bulk_no, P.bulks_cons, P.bulks_one] at hbk; omega
    have IT := iht rfl hbt.1
    have IU := ihu rfl hbt.2
    obtain ⟨e0, e1⟩ := termB_two 5 45 (by decide) t u (P.body_sub t u)
    intro B b bs tg w R v h hR hIs hlen hBw
    cases tg
    · rw [e0] at hlen ⊢
      refine (term_sub0 t u IT IU B b bs w R v h hR hIs (by simp only [List.length_append, List.length_cons, List.length_nil] at hlen; omega) hBw).mono ?_
      rintro e w' ⟨rfl, h1, hb, hk⟩
      refine ⟨rfl, ?_, hb, hk⟩
      have e : bs ++ Lib.byteCells (termB t false ++ ([32, 45, 32] ++ termB u true)) = ((bs ++ Lib.byteCells (termB t false)) ++ Lib.strCells ⟨#[32, 45, 32]⟩) ++ Lib.byteCells (termB u true) := by simp [Lib.byteCells, Lib.strCells]
      rw [e]; exact h1
    · rw [e1] at hlen ⊢
      refine (term_sub1 t u IT IU B b bs w R v h hR hIs (by simp only [List.length_append, List.length_cons, List.length_nil] at hlen; omega) hBw).mono ?_
      rintro e w' ⟨rfl, h1, hb, hk⟩
      refine ⟨rfl, ?_, hb, hk⟩
      have e : bs ++ Lib.byteCells (40 :: ((termB t false ++ ([32, 45, 32] ++ termB u true)) ++ [41])) = ((((bs ++ [Value.int .u8 40]) ++ Lib.byteCells (termB t false)) ++ Lib.strCells ⟨#[32, 45, 32]⟩) ++ Lib.byteCells (termB u true)) ++ [Value.int .u8 41] := by simp [Lib.byteCells, Lib.strCells]
      rw [e]; exact h1
  | tt => intro h; cases h
  | ff => intro h; cases h
  | cmp k hk t u ht hu iht ihu => intro h; cases h
  | div m hm h0 t ht ih => intro h; cases h
  | not t ht ih => intro h; cases h
  | and t u ks ht hu hks iht ihu ihks => intro h; cases h
  | or t u ks ht hu hks iht ihu ihks => intro h; cases h
  | imp t u ht hu iht ihu => intro h; cases h
  | iff t u ht hu iht ihu => intro h; cases h
  | some s ns hs hns t ht ih => intro h; cases h
  | all s ns hs hns t ht ih => intro h; cases h
end Go.Proofs.YthiadenmljbdaaaGreatDoor
end
section
namespace Go.Proofs.YthiadenmljbdaaaGreatDoor
open Go.RowKit
open Go.Shelf
attribute [local go_sem] Oper.semAt_some
def atomB (t : T) : List UInt8 := P.bytes (P.body t true)
def AtomW (t : T) : Prop := ∀ (B b : Nat) (bs : List Value) (w : World) (R : Nat → Prop) (v : Value), T.In w R t v → (∀ g, R g → g < B) → Lib.IsBuilder TW TB B b bs w →
    bs.length + (atomB t).length ≤ 140737488355328 → B ≤ w.heap.size →
    Calls Tryz.prog 80 #[.pointer (some ⟨b, 0, none⟩), v] w fun e w' => e = .returned (.tuple #[]) ∧ (Lib.BuilderAt TW TB B b (.pointer (some ⟨b, 0, none⟩)) (bs ++ Lib.byteCells (atomB t)) w' ∧ Below B w w' ∧ Lib.OthersKept TB (some b) w w')
set_option maxHeartbeats 1600000 in
set_option maxRecDepth 100000 in
theorem atom_true : AtomW (P.nd 7 []) := by
  intro B b bs w R v h _ hIs hlen hBw
  have e : atomB (P.nd 7 []) = [116, 114, 117, 101] := rfl
  rw [e] at hlen ⊢
  have hlen' : bs.length + (⟨#[116, 114, 117, 101]⟩ : ByteArray).size ≤ 140737488355328 := hlen
  clear e hlen
  rw [P.nd, T.In] at h
  obtain ⟨A1, c1, A2, c2, A3, c3, rfl, _⟩ := h
  unfold tv
  simp only [List.length_nil]
  go_enter Tryz.func80, Tryz.ntmps80
  go_upto_region 4 with (fail)
  obtain ⟨W, hW, ps, hbW⟩ := made_blk w #[.int .i64 7, .string ⟨#[]⟩, .slice A1 0 c1, .bool false, .slice A2 0 c2, .slice A3 0 c3] 28
  obtain ⟨g, hg⟩ : ∃ g, g = w.heap.size := ⟨_, rfl⟩
  have HB : Hid (Lib.IsBuilder TW TB B b bs W) := Lib.hid (hW ▸ isB_alloc hIs _)
  have HK : Hid (Lib.OthersKept TB (some b) w W) := Lib.hid (hW ▸ (Lib.OthersKept.refl TB (some b) w).alloc _)
  have hBW : B ≤ W.heap.size := Nat.le_trans hBw hbW.size
  have HBW := Lib.hid (hbW.mono hBw)
  skip
  rw [← hW, ← hg]
  rw [← hg] at ps
  have hgb : g ≠ b := by
    have : b < w.heap.size := by rcases hIs with h' | h' <;> exact h'.lt
    omega
  clear hW hbW hIs hBw hg
  obtain ⟨x0, x1, x2, x3, x4, x5⟩ := ps.six
  go_wp2_with (go_at_call 78; refine (wstr_w B b bs ⟨#[116, 114, 117, 101]⟩ _ HB.out hlen' hBW).mono ?_; rintro e w2 ⟨rfl, h2, hb2, hk2⟩)
  refine bodyPost_ret (results_none rfl _ _ _) rfl ?_
  exact ⟨rfl, h2, (HBW.out).trans hb2, (HK.out).trans hk2⟩
set_option maxHeartbeats 1600000 in
set_option maxRecDepth 100000 in
theorem atom_false : AtomW (P.nd 8 []) := by
  intro B b bs w R v h _ hIs hlen hBw
  have e : atomB (P.nd 8 []) = [102, 97, 108, 115, 101] := rfl
  rw [e] at hlen ⊢
  have hlen' : bs.length + (⟨#[102, 97, 108, 115, 101]⟩ : ByteArray).size ≤ 140737488355328 := hlen
  clear e hlen
  rw [P.nd, T.In] at h
  obtain ⟨A1, c1, A2, c2, A3, c3, rfl, _⟩ := h
  unfold tv
  simp only [List.length_nil]
  go_enter Tryz.func80, Tryz.ntmps80
  go_upto_region 6 with (fail)
  obtain ⟨W, hW, ps, hbW⟩ := made_blk w #[.int .i64 8, .string ⟨#[]⟩, .slice A1 0 c1, .bool false, .slice A2 0 c2, .slice A3 0 c3] 28
  obtain ⟨g, hg⟩ : ∃ g, g = w.heap.size := ⟨_, rfl⟩
  have HB : Hid (Lib.IsBuilder TW TB B b bs W) := Lib.hid (hW ▸ isB_alloc hIs _)
  have HK : Hid (Lib.OthersKept TB (some b) w W) := Lib.hid (hW ▸ (Lib.OthersKept.refl TB (some b) w).alloc _)
  have hBW : B ≤ W.heap.size := Nat.le_trans hBw hbW.size
  have HBW := Lib.hid (hbW.mono hBw)
  skip
  rw [← hW, ← hg]
  rw [← hg] at ps
  have hgb : g ≠ b := by
    have : b < w.heap.size := by rcases hIs with h' | h' <;> exact h'.lt
    omega
  clear hW hbW hIs hBw hg
  obtain ⟨x0, x1, x2, x3, x4, x5⟩ := ps.six
  go_wp2_with (go_at_call 78; refine (wstr_w B b bs ⟨#[102, 97, 108, 115, 101]⟩ _ HB.out hlen' hBW).mono ?_; rintro e w2 ⟨rfl, h2, hb2, hk2⟩)
  refine bodyPost_ret (results_none rfl _ _ _) rfl ?_
  exact ⟨rfl, h2, (HBW.out).trans hb2, (HK.out).trans hk2⟩
end Go.Proofs.YthiadenmljbdaaaGreatDoor
end

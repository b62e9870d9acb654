/-
  s: the parts WCmp WDiv WLevel of the proof.
-/
import Derived.Test.YthiadenmljbdaaaGreatDoorB19s
section
namespace Go.Proofs.YthiadenmljbdaaaGreatDoor
open Go.RowKit
open Go.Shelf
attribute [local go_sem] Oper.semAt_some
set_option maxHeartbeats 3200000 in
set_option maxRecDepth 100000 in
theorem atom_9 (t u : T) (iht : TermW t) (ihu : TermW u) : AtomW (P.nd 9 [t, u]) := by
  intro B b bs w R v h hR hIs hlen hBw
  have e : atomB (P.nd 9 [t, u]) = termB t false ++ ([32, 60, 32] ++ termB u false) := by
    unfold atomB
    rw [P.body_cmp (by decide), P.bytes_append, P.bytes_cons, P.bytes_cons, P.bytes_cons]
    rfl
  rw [e] at hlen ⊢
  clear e
  simp only [List.length_append, List.length_cons, List.length_nil] at hlen
  have e : bs ++ Lib.byteCells (termB t false ++ ([32, 60, 32] ++ termB u false)) = ((bs ++ Lib.byteCells (termB t false)) ++ Lib.strCells ⟨#[32, 60, 32]⟩) ++ Lib.byteCells (termB u false) := by simp [Lib.byteCells, Lib.strCells]
  rw [e]
  clear e
  rw [P.nd, T.In] at h
  obtain ⟨A1, c1, A2, c2, A3, c3, rfl, _, _, hc3, hk⟩ := h
  obtain ⟨kb, ko, rfl, hRk, hI⟩ := hk (by simp)
  rw [T.Ins, T.Ins] at hI
  obtain ⟨⟨v0, v1, v2, v3, v4, v5, h6, hI0⟩, ⟨u0, u1, u2, u3, u4, u5, k6, hJ0⟩, _⟩ := hI
  have hkB := hR kb hRk
  have IHT := Lib.hid iht
  have IHU := Lib.hid ihu
  have H6 := Lib.hid h6
  have K6 := Lib.hid k6
  have HI := Lib.hid hI0
  have HJ := Lib.hid hJ0
  have HR := Lib.hid hR
  clear iht ihu h6 hI0 k6 hJ0 hR hk
  unfold tv
  simp only [List.length_nil, List.length_cons, Nat.zero_add, Nat.reduceAdd]
  go_enter Tryz.func80, Tryz.ntmps80
  go_upto_region 22 with (fail)
  obtain ⟨W, hW, ps, hbW⟩ := made_blk w #[.int .i64 9, .string ⟨#[]⟩, .slice A1 0 c1, .bool false, .slice A2 0 c2, .slice (some ⟨kb, ko, none⟩) 2 c3] 28
  obtain ⟨g, hg⟩ : ∃ g, g = w.heap.size := ⟨_, rfl⟩
  have HB : Hid (Lib.IsBuilder TW TB B b bs W) := Lib.hid (hW ▸ isB_alloc hIs _)
  have HK : Hid (Lib.OthersKept TB (some b) w W) := Lib.hid (hW ▸ (Lib.OthersKept.refl TB (some b) w).alloc _)
  have hBW : B ≤ W.heap.size := Nat.le_trans hBw hbW.size
  have HBW := Lib.hid (hbW.mono hBw)
  skip
  rw [← hW, ← hg]
  rw [← hg] at ps
  have hgb : g ≠ b := by
    have : b < w.heap.size := by rcases hIs with h' | h' <;> exact h'.lt
    omega
  clear hW hbW hIs hBw hg
  obtain ⟨x0, x1, x2, x3, x4, x5⟩ := ps.six
  obtain ⟨y0, y1, y2, y3, y4, y5⟩ := H6.out.keep (fun p v hp hc => (HBW.out.cell (by rw [hp]; exact hkB)).trans hc)
  have HI1 := Lib.hid (HI.out.under HR.out HBW.out)
  have hl1 : bs.length + (termB t false).length ≤ 140737488355328 := by omega
  have HPS := Lib.hid ps
  clear ps
  go_upto_region 23 with (go_at_call 115; refine (IHT.out B b bs false _ R _ HI1.out HR.out HB.out hl1 hBW).mono ?_; rintro e w1 ⟨rfl, h1, hb1, hk1⟩)
  have pg : Blk w1 g 28 #[.int .i64 9, .string ⟨#[]⟩, .slice A1 0 c1, .bool false, .slice A2 0 c2, .slice (some ⟨kb, ko, none⟩) 2 c3] := hk1 g _ HPS.out (by simpa using hgb) (fun c fz e => by injection e with _ e _; exact absurd e (by decide))
  have HBB := Lib.hid (HBW.out.trans hb1)
  have HK1 := Lib.hid (HK.out.trans hk1)
  have hB1 : B ≤ w1.heap.size := Nat.le_trans hBW hb1.size
  clear x0 x1 x2 x3 x4 x5 y0 y1 y2 y3 y4 y5
  obtain ⟨x0, x1, x2, x3, x4, x5⟩ := pg.six
  have H1 := Lib.hid h1
  have HPG := Lib.hid pg
  have hl2 : (bs ++ Lib.byteCells (termB t false)).length + (⟨#[32, 60, 32]⟩ : ByteArray).size ≤ 140737488355328 := by rw [List.length_append, Lib.byteCells_length]; have : (⟨#[32, 60, 32]⟩ : ByteArray).size = 3 := rfl; omega
  have hl3 : ((bs ++ Lib.byteCells (termB t false)) ++ Lib.strCells ⟨#[32, 60, 32]⟩).length + (termB u false).length ≤ 140737488355328 := by rw [List.length_append, List.length_append, Lib.byteCells_length, Lib.strCells_length]; have : (⟨#[32, 60, 32]⟩ : ByteArray).size = 3 := rfl; omega
  clear h1 hk1 hb1 pg
  go_wp2_with (first
    | (go_at_call 115; refine (IHU.out B b ((bs ++ Lib.byteCells (termB t false)) ++ Lib.strCells ⟨#[32, 60, 32]⟩) false _ R _ HJ3.out HR.out (.inr H3.out) hl3 hB3).mono ?_; rintro e w4 ⟨rfl, h4, hb4, hk4⟩)
    | (go_at_call 78; refine (wstr_w B b (bs ++ Lib.byteCells (termB t false)) ⟨#[32, 60, 32]⟩ _ (.inr H1.out) hl2 hB1).mono ?_; rintro e w3 ⟨rfl, h3, hb3, hk3⟩; have pg3 : Blk w3 g 28 #[.int .i64 9, .string ⟨#[]⟩, .slice A1 0 c1, .bool false, .slice A2 0 c2, .slice (some ⟨kb, ko, none⟩) 2 c3] := hk3 g _ HPG.out (by simpa using hgb) (fun c fz e => by injection e with _ e _; exact absurd e (by decide)); have HB3 := Lib.hid (HBB.out.trans hb3); have HK3 := Lib.hid (HK1.out.trans hk3); have hB3 : B ≤ w3.heap.size := Nat.le_trans hB1 hb3.size; have H3 := Lib.hid h3; have HJ3 := Lib.hid (HJ.out.under HR.out HB3.out); clear x0 x1 x2 x3 x4 x5 h3 hk3 hb3; obtain ⟨x0, x1, x2, x3, x4, x5⟩ := pg3.six; obtain ⟨y0, y1, y2, y3, y4, y5⟩ := K6.out.keep (fun p v hp hc => (HB3.out.cell (by rw [hp]; exact hkB)).trans hc)))
  go_end0
  exact ⟨rfl, h4, HB3.out.trans hb4, HK3.out.trans hk4⟩
set_option maxHeartbeats 3200000 in
set_option maxRecDepth 100000 in
theorem atom_10 (t u : T) (iht : TermW t) (ihu : TermW u) : AtomW (P.nd 10 [t, u]) := by
  intro B b bs w R v h hR hIs hlen hBw
  have e : atomB (P.nd 10 [t, u]) = termB t false ++ ([32, 60, 61, 32] ++ termB u false) := by
    unfold atomB
    rw [P.body_cmp (by decide), P.bytes_append, P.bytes_cons, P.bytes_cons, P.bytes_cons]
    rfl
  rw [e] at hlen ⊢
  clear e
  simp only [List.length_append, List.length_cons, List.length_nil] at hlen
  have e : bs ++ Lib.byteCells (termB t false ++ ([32, 60, 61, 32] ++ termB u false)) = ((bs ++ Lib.byteCells (termB t false)) ++ Lib.strCells ⟨#[32, 60, 61, 32]⟩) ++ Lib.byteCells (termB u false) := by simp [Lib.byteCells, Lib.strCells]
  rw [e]
  clear e
  rw [P.nd, T.In] at h
  obtain ⟨A1, c1, A2, c2, A3, c3, rfl, _, _, hc3, hk⟩ := h
  obtain ⟨kb, ko, rfl, hRk, hI⟩ := hk (by simp)
  rw [T.Ins, T.Ins] at hI
  obtain ⟨⟨v0, v1, v2, v3, v4, v5, h6, hI0⟩, ⟨u0, u1, u2, u3, u4, u5, k6, hJ0⟩, _⟩ := hI
  have hkB := hR kb hRk
  have IHT := Lib.hid iht
  have IHU := Lib.hid ihu
  have H6 := Lib.hid h6
  have K6 := Lib.hid k6
  have HI := Lib.hid hI0
  have HJ := Lib.hid hJ0
  have HR := Lib.hid hR
  clear iht ihu h6 hI0 k6 hJ0 hR hk
  unfold tv
  simp only [List.length_nil, List.length_cons, Nat.zero_add, Nat.reduceAdd]
  go_enter Tryz.func80, Tryz.ntmps80
  go_upto_region 22 with (fail)
  obtain ⟨W, hW, ps, hbW⟩ := made_blk w #[.int .i64 10, .string ⟨#[]⟩, .slice A1 0 c1, .bool false, .slice A2 0 c2, .slice (some ⟨kb, ko, none⟩) 2 c3] 28
  obtain ⟨g, hg⟩ : ∃ g, g = w.heap.size := ⟨_, rfl⟩
  have HB : Hid (Lib.IsBuilder TW TB B b bs W) := Lib.hid (hW ▸ isB_alloc hIs _)
  have HK : Hid (Lib.OthersKept TB (some b) w W) := Lib.hid (hW ▸ (Lib.OthersKept.refl TB (some b) w).alloc _)
  have hBW : B ≤ W.heap.size := Nat.le_trans hBw hbW.size
  have HBW := Lib.hid (hbW.mono hBw)
  skip
  rw [← hW, ← hg]
  rw [← hg] at ps
  have hgb : g ≠ b := by
    have : b < w.heap.size := by rcases hIs with h' | h' <;> exact h'.lt
    omega
  clear hW hbW hIs hBw hg
  obtain ⟨x0, x1, x2, x3, x4, x5⟩ := ps.six
  obtain ⟨y0, y1, y2, y3, y4, y5⟩ := H6.out.keep (fun p v hp hc => (HBW.out.cell (by rw [hp]; exact hkB)).trans hc)
  have HI1 := Lib.hid (HI.out.under HR.out HBW.out)
  have hl1 : bs.length + (termB t false).length ≤ 140737488355328 := by omega
  have HPS := Lib.hid ps
  clear ps
  go_upto_region 23 with (go_at_call 115; refine (IHT.out B b bs false _ R _ HI1.out HR.out HB.out hl1 hBW).mono ?_; rintro e w1 ⟨rfl, h1, hb1, hk1⟩)
  have pg : Blk w1 g 28 #[.int .i64 10, .string ⟨#[]⟩, .slice A1 0 c1, .bool false, .slice A2 0 c2, .slice (some ⟨kb, ko, none⟩) 2 c3] := hk1 g _ HPS.out (by simpa using hgb) (fun c fz e => by injection e with _ e _; exact absurd e (by decide))
  have HBB := Lib.hid (HBW.out.trans hb1)
  have HK1 := Lib.hid (HK.out.trans hk1)
  have hB1 : B ≤ w1.heap.size := Nat.le_trans hBW hb1.size
  clear x0 x1 x2 x3 x4 x5 y0 y1 y2 y3 y4 y5
  obtain ⟨x0, x1, x2, x3, x4, x5⟩ := pg.six
  have H1 := Lib.hid h1
  have HPG := Lib.hid pg
  have hl2 : (bs ++ Lib.byteCells (termB t false)).length + (⟨#[32, 60, 61, 32]⟩ : ByteArray).size ≤ 140737488355328 := by rw [List.length_append, Lib.byteCells_length]; have : (⟨#[32, 60, 61, 32]⟩ : ByteArray).size = 4 := rfl; omega
  have hl3 : ((bs ++ Lib.byteCells (termB t false)) ++ Lib.strCells ⟨#[32, 60, 61, 32]⟩).length + (termB u false).length ≤ 140737488355328 := by rw [List.length_append, List.length_append, Lib.byteCells_length, Lib.strCells_length]; have : (⟨#[32, 60, 61, 32]⟩ : ByteArray).size = 4 := rfl; omega
  clear h1 hk1 hb1 pg
  go_wp2_with (first
    | (go_at_call 115; refine (IHU.out B b ((bs ++ Lib.byteCells (termB t false)) ++ Lib.strCells ⟨#[32, 60, 61, 32]⟩) false _ R _ HJ3.out HR.out (.inr H3.out) hl3 hB3).mono ?_; rintro e w4 ⟨rfl, h4, hb4, hk4⟩)
    | (go_at_call 78; refine (wstr_w B b (bs ++ Lib.byteCells (termB t false)) ⟨#[32, 60, 61, 32]⟩ _ (.inr H1.out) hl2 hB1).mono ?_; rintro e w3 ⟨rfl, h3, hb3, hk3⟩; have pg3 : Blk w3 g 28 #[.int .i64 10, .string ⟨#[]⟩, .slice A1 0 c1, .bool false, .slice A2 0 c2, .slice (some ⟨kb, ko, none⟩) 2 c3] := hk3 g _ HPG.out (by simpa using hgb) (fun c fz e => by injection e with _ e _; exact absurd e (by decide)); have HB3 := Lib.hid (HBB.out.trans hb3); have HK3 := Lib.hid (HK1.out.trans hk3); have hB3 : B ≤ w3.heap.size := Nat.le_trans hB1 hb3.size; have H3 := Lib.hid h3; have HJ3 := Lib.hid (HJ.out.under HR.out HB3.out); clear x0 x1 x2 x3 x4 x5 h3 hk3 hb3; obtain ⟨x0, x1, x2, x3, x4, x5⟩ := pg3.six; obtain ⟨y0, y1, y2, y3, y4, y5⟩ := K6.out.keep (fun p v hp hc => (HB3.out.cell (by rw [hp]; exact hkB)).trans hc)))
  go_end0
  exact ⟨rfl, h4, HB3.out.trans hb4, HK3.out.trans hk4⟩
set_option maxHeartbeats 3200000 in
set_option maxRecDepth 100000 in
theorem atom_11 (t u : T) (iht : TermW t) (ihu : TermW u) : AtomW (P.nd 11 [t, u]) := by
  intro B b bs w R v h hR hIs hlen hBw
  have e : atomB (P.nd 11 [t, u]) = termB t false ++ ([32, 61, 32] ++ termB u false) := by
    unfold atomB
    rw [P.body_cmp (by decide), P.bytes_append, P.bytes_cons, P.bytes_cons, P.bytes_cons]
    rfl
  rw [e] at hlen ⊢
  clear e
  simp only [List.length_append, List.length_cons, List.length_nil] at hlen
  have e : bs ++ Lib.byteCells (termB t false ++ ([32, 61, 32] ++ termB u false)) = ((bs ++ Lib.byteCells (termB t false)) ++ Lib.strCells ⟨#[32, 61, 32]⟩) ++ Lib.byteCells (termB u false) := by simp [Lib.byteCells, Lib.strCells]
  rw [e]
  clear e
  rw [P.nd, T.In] at h
  obtain ⟨A1, c1, A2, c2, A3, c3, rfl, _, _, hc3, hk⟩ := h
  obtain ⟨kb, ko, rfl, hRk, hI⟩ := hk (by simp)
  rw [T.Ins, T.Ins] at hI
  obtain ⟨⟨v0, v1, v2, v3, v4, v5, h6, hI0⟩, ⟨u0, u1, u2, u3, u4, u5, k6, hJ0⟩, _⟩ := hI
  have hkB := hR kb hRk
  have IHT := Lib.hid iht
  have IHU := Lib.hid ihu
  have H6 := Lib.hid h6
  have K6 := Lib.hid k6
  have HI := Lib.hid hI0
  have HJ := Lib.hid hJ0
  have HR := Lib.hid hR
  clear iht ihu h6 hI0 k6 hJ0 hR hk
  unfold tv
  simp only [List.length_nil, List.length_cons, Nat.zero_add, Nat.reduceAdd]
  go_enter Tryz.func80, Tryz.ntmps80
  go_upto_region 22 with (fail)
  obtain ⟨W, hW, ps, hbW⟩ := made_blk w #[.int .i64 11, .string ⟨#[]⟩, .slice A1 0 c1, .bool false, .slice A2 0 c2, .slice (some ⟨kb, ko, none⟩) 2 c3] 28
  obtain ⟨g, hg⟩ : ∃ g, g = w.heap.size := ⟨_, rfl⟩
  have HB : Hid (Lib.IsBuilder TW TB B b bs W) := Lib.hid (hW ▸ isB_alloc hIs _)
  have HK : Hid (Lib.OthersKept TB (some b) w W) := Lib.hid (hW ▸ (Lib.OthersKept.refl TB (some b) w).alloc _)
  have hBW : B ≤ W.heap.size := Nat.le_trans hBw hbW.size
  have HBW := Lib.hid (hbW.mono hBw)
  skip
  rw [← hW, ← hg]
  rw [← hg] at ps
  have hgb : g ≠ b := by
    have : b < w.heap.size := by rcases hIs with h' | h' <;> exact h'.lt
    omega
  clear hW hbW hIs hBw hg
  obtain ⟨x0, x1, x2, x3, x4, x5⟩ := ps.six
  obtain ⟨y0, y1, y2, y3, y4, y5⟩ := H6.out.keep (fun p v hp hc => (HBW.out.cell (by rw [hp]; exact hkB)).trans hc)
  have HI1 := Lib.hid (HI.out.under HR.out HBW.out)
  have hl1 : bs.length + (termB t false).length ≤ 140737488355328 := by omega
  have HPS := Lib.hid ps
  clear ps
  go_upto_region 23 with (go_at_call 115; refine (IHT.out B b bs false _ R _ HI1.out HR.out HB.out hl1 hBW).mono ?_; rintro e w1 ⟨rfl, h1, hb1, hk1⟩)
  have pg : Blk w1 g 28 #[.int .i64 11, .string ⟨#[]⟩, .slice A1 0 c1, .bool false, .slice A2 0 c2, .slice (some ⟨kb, ko, none⟩) 2 c3] := hk1 g _ HPS.out (by simpa using hgb) (fun c fz e => by injection e with _ e _; exact absurd e (by decide))
  have HBB := Lib.hid (HBW.out.trans hb1)
  have HK1 := Lib.hid (HK.out.trans hk1)
  have hB1 : B ≤ w1.heap.size := Nat.le_trans hBW hb1.size
  clear x0 x1 x2 x3 x4 x5 y0 y1 y2 y3 y4 y5
  obtain ⟨x0, x1, x2, x3, x4, x5⟩ := pg.six
  have H1 := Lib.hid h1
  have HPG := Lib.hid pg
  have hl2 : (bs ++ Lib.byteCells (termB t false)).length + (⟨#[32, 61, 32]⟩ : ByteArray).size ≤ 140737488355328 := by rw [List.length_append, Lib.byteCells_length]; have : (⟨#[32, 61, 32]⟩ : ByteArray).size = 3 := rfl; omega
  have hl3 : ((bs ++ Lib.byteCells (termB t false)) ++ Lib.strCells ⟨#[32, 61, 32]⟩).length + (termB u false).length ≤ 140737488355328 := by rw [List.length_append, List.length_append, Lib.byteCells_length, Lib.strCells_length]; have : (⟨#[32, 61, 32]⟩ : ByteArray).size = 3 := rfl; omega
  clear h1 hk1 hb1 pg
  go_wp2_with (first
    | (go_at_call 115; refine (IHU.out B b ((bs ++ Lib.byteCells (termB t false)) ++ Lib.strCells ⟨#[32, 61, 32]⟩) false _ R _ HJ3.out HR.out (.inr H3.out) hl3 hB3).mono ?_; rintro e w4 ⟨rfl, h4, hb4, hk4⟩)
    | (go_at_call 78; refine (wstr_w B b (bs ++ Lib.byteCells (termB t false)) ⟨#[32, 61, 32]⟩ _ (.inr H1.out) hl2 hB1).mono ?_; rintro e w3 ⟨rfl, h3, hb3, hk3⟩; have pg3 : Blk w3 g 28 #[.int .i64 11, .string ⟨#[]⟩, .slice A1 0 c1, .bool false, .slice A2 0 c2, .slice (some ⟨kb, ko, none⟩) 2 c3] := hk3 g _ HPG.out (by simpa using hgb) (fun c fz e => by injection e with _ e _; exact absurd e (by decide)); have HB3 := Lib.hid (HBB.out.trans hb3); have HK3 := Lib.hid (HK1.out.trans hk3); have hB3 : B ≤ w3.heap.size := Nat.le_trans hB1 hb3.size; have H3 := Lib.hid h3; have HJ3 := Lib.hid (HJ.out.under HR.out HB3.out); clear x0 x1 x2 x3 x4 x5 h3 hk3 hb3; obtain ⟨x0, x1, x2, x3, x4, x5⟩ := pg3.six; obtain ⟨y0, y1, y2, y3, y4, y5⟩ := K6.out.keep (fun p v hp hc => (HB3.out.cell (by rw [hp]; exact hkB)).trans hc)))
  go_end0
  exact ⟨rfl, h4, HB3.out.trans hb4, HK3.out.trans hk4⟩
set_option maxHeartbeats 3200000 in
set_option maxRecDepth 100000 in
theorem atom_12 (t u : T) (iht : TermW t) (ihu : TermW u) : AtomW (P.nd 12 [t, u]) := by
  intro B b bs w R v h hR hIs hlen hBw
  have e : atomB (P.nd 12 [t, u]) = termB t false ++ ([32, 33, 61, 32] ++ termB u false) := by
    unfold atomB
    rw [P.body_cmp (by decide), P.bytes_append, P.bytes_cons, P.bytes_cons, P.bytes_cons]
    rfl
  rw [e] at hlen ⊢
  clear e
  simp only [List.length_append, List.length_cons, List.length_nil] at hlen
  have e : bs ++ Lib.byteCells (termB t false ++ ([32, 33, 61, 32] ++ termB u false)) = ((bs ++ Lib.byteCells (termB t false)) ++ Lib.strCells ⟨#[32, 33, 61, 32]⟩) ++ Lib.byteCells (termB u false) := by simp [Lib.byteCells, Lib.strCells]
  rw [e]
  clear e
  rw [P.nd, T.In] at h
  obtain ⟨A1, c1, A2, c2, A3, c3, rfl, _, _, hc3, hk⟩ := h
  obtain ⟨kb, ko, rfl, hRk, hI⟩ := hk (by simp)
  rw [T.Ins, T.Ins] at hI
  obtain ⟨⟨v0, v1, v2, v3, v4, v5, h6, hI0⟩, ⟨u0, u1, u2, u3, u4, u5, k6, hJ0⟩, _⟩ := hI
  have hkB := hR kb hRk
  have IHT := Lib.hid iht
  have IHU := Lib.hid ihu
  have H6 := Lib.hid h6
  have K6 := Lib.hid k6
  have HI := Lib.hid hI0
  have HJ := Lib.hid hJ0
  have HR := Lib.hid hR
  clear iht ihu h6 hI0 k6 hJ0 hR hk
  unfold tv
  simp only [List.length_nil, List.length_cons, Nat.zero_add, Nat.reduceAdd]
  go_enter Tryz.func80, Tryz.ntmps80
  go_upto_region 22 with (fail)
  obtain ⟨W, hW, ps, hbW⟩ := made_blk w #[.int .i64 12, .string ⟨#[]⟩, .slice A1 0 c1, .bool false, .slice A2 0 c2, .slice (some ⟨kb, ko, none⟩) 2 c3] 28
  obtain ⟨g, hg⟩ : ∃ g, g = w.heap.size := ⟨_, rfl⟩
  have HB : Hid (Lib.IsBuilder TW TB B b bs W) := Lib.hid (hW ▸ isB_alloc hIs _)
  have HK : Hid (Lib.OthersKept TB (some b) w W) := Lib.hid (hW ▸ (Lib.OthersKept.refl TB (some b) w).alloc _)
  have hBW : B ≤ W.heap.size := Nat.le_trans hBw hbW.size
  have HBW := Lib.hid (hbW.mono hBw)
  skip
  rw [← hW, ← hg]
  rw [← hg] at ps
  have hgb : g ≠ b := by
    have : b < w.heap.size := by rcases hIs with h' | h' <;> exact h'.lt
    omega
  clear hW hbW hIs hBw hg
  obtain ⟨x0, x1, x2, x3, x4, x5⟩ := ps.six
  obtain ⟨y0, y1, y2, y3, y4, y5⟩ := H6.out.keep (fun p v hp hc => (HBW.out.cell (by rw [hp]; exact hkB)).trans hc)
  have HI1 := Lib.hid (HI.out.under HR.out HBW.out)
  have hl1 : bs.length + (termB t false).length ≤ 140737488355328 := by omega
  have HPS := Lib.hid ps
  clear ps
  go_upto_region 23 with (go_at_call 115; refine (IHT.out B b bs false _ R _ HI1.out HR.out HB.out hl1 hBW).mono ?_; rintro e w1 ⟨rfl, h1, hb1, hk1⟩)
  have pg : Blk w1 g 28 #[.int .i64 12, .string ⟨#[]⟩, .slice A1 0 c1, .bool false, .slice A2 0 c2, .slice (some ⟨kb, ko, none⟩) 2 c3] := hk1 g _ HPS.out (by simpa using hgb) (fun c fz e => by injection e with _ e _; exact absurd e (by decide))
  have HBB := Lib.hid (HBW.out.trans hb1)
  have HK1 := Lib.hid (HK.out.trans hk1)
  have hB1 : B ≤ w1.heap.size := Nat.le_trans hBW hb1.size
  clear x0 x1 x2 x3 x4 x5 y0 y1 y2 y3 y4 y5
  obtain ⟨x0, x1, x2, x3, x4, x5⟩ := pg.six
  have H1 := Lib.hid h1
  have HPG := Lib.hid pg
  have hl2 : (bs ++ Lib.byteCells (termB t false)).length + (⟨#[32, 33, 61, 32]⟩ : ByteArray).size ≤ 140737488355328 := by rw [List.length_append, Lib.byteCells_length]; have : (⟨#[32, 33, 61, 32]⟩ : ByteArray).size = 4 := rfl; omega
  have hl3 : ((bs ++ Lib.byteCells (termB t false)) ++ Lib.strCells ⟨#[32, 33, 61, 32]⟩).length + (termB u false).length ≤ 140737488355328 := by rw [List.length_append, List.length_append, Lib.byteCells_length, Lib.strCells_length]; have : (⟨#[32, 33, 61, 32]⟩ : ByteArray).size = 4 := rfl; omega
  clear h1 hk1 hb1 pg
  go_wp2_with (first
    | (go_at_call 115; refine (IHU.out B b ((bs ++ Lib.byteCells (termB t false)) ++ Lib.strCells ⟨#[32, 33, 61, 32]⟩) false _ R _ HJ3.out HR.out (.inr H3.out) hl3 hB3).mono ?_; rintro e w4 ⟨rfl, h4, hb4, hk4⟩)
    | (go_at_call 78; refine (wstr_w B b (bs ++ Lib.byteCells (termB t false)) ⟨#[32, 33, 61, 32]⟩ _ (.inr H1.out) hl2 hB1).mono ?_; rintro e w3 ⟨rfl, h3, hb3, hk3⟩; have pg3 : Blk w3 g 28 #[.int .i64 12, .string ⟨#[]⟩, .slice A1 0 c1, .bool false, .slice A2 0 c2, .slice (some ⟨kb, ko, none⟩) 2 c3] := hk3 g _ HPG.out (by simpa using hgb) (fun c fz e => by injection e with _ e _; exact absurd e (by decide)); have HB3 := Lib.hid (HBB.out.trans hb3); have HK3 := Lib.hid (HK1.out.trans hk3); have hB3 : B ≤ w3.heap.size := Nat.le_trans hB1 hb3.size; have H3 := Lib.hid h3; have HJ3 := Lib.hid (HJ.out.under HR.out HB3.out); clear x0 x1 x2 x3 x4 x5 h3 hk3 hb3; obtain ⟨x0, x1, x2, x3, x4, x5⟩ := pg3.six; obtain ⟨y0, y1, y2, y3, y4, y5⟩ := K6.out.keep (fun p v hp hc => (HB3.out.cell (by rw [hp]; exact hkB)).trans hc)))
  go_end0
  exact ⟨rfl, h4, HB3.out.trans hb4, HK3.out.trans hk4⟩
set_option maxHeartbeats 3200000 in
set_option maxRecDepth 100000 in
theorem atom_13 (t u : T) (iht : TermW t) (ihu : TermW u) : AtomW (P.nd 13 [t, u]) := by
  intro B b bs w R v h hR hIs hlen hBw
  have e : atomB (P.nd 13 [t, u]) = termB t false ++ ([32, 62, 61, 32] ++ termB u false) := by
    unfold atomB
    rw [P.body_cmp (by decide), P.bytes_append, P.bytes_cons, P.bytes_cons, P.bytes_cons]
    rfl
  rw [e] at hlen ⊢
  clear e
  simp only [List.length_append, List.length_cons, List.length_nil] at hlen
  have e : bs ++ Lib.byteCells (termB t false ++ ([32, 62, 61, 32] ++ termB u false)) = ((bs ++ Lib.byteCells (termB t false)) ++ Lib.strCells ⟨#[32, 62, 61, 32]⟩) ++ Lib.byteCells (termB u false) := by simp [Lib.byteCells, Lib.strCells]
  rw [e]
  clear e
  rw [P.nd, T.In] at h
  obtain ⟨A1, c1, A2, c2, A3, c3, rfl, _, _, hc3, hk⟩ := h
  obtain ⟨kb, ko, rfl, hRk, hI⟩ := hk (by simp)
  rw [T.Ins, T.Ins] at hI
  obtain ⟨⟨v0, v1, v2, v3, v4, v5, h6, hI0⟩, ⟨u0, u1, u2, u3, u4, u5, k6, hJ0⟩, _⟩ := hI
  have hkB := hR kb hRk
  have IHT := Lib.hid iht
  have IHU := Lib.hid ihu
  have H6 := Lib.hid h6
  have K6 := Lib.hid k6
  have HI := Lib.hid hI0
  have HJ := Lib.hid hJ0
  have HR := Lib.hid hR
  clear iht ihu h6 hI0 k6 hJ0 hR hk
  unfold tv
  simp only [List.length_nil, List.length_cons, Nat.zero_add, Nat.reduceAdd]
  go_enter Tryz.func80, Tryz.ntmps80
  go_upto_region 22 with (fail)
  obtain ⟨W, hW, ps, hbW⟩ := made_blk w #[.int .i64 13, .string ⟨#[]⟩, .slice A1 0 c1, .bool false, .slice A2 0 c2, .slice (some ⟨kb, ko, none⟩) 2 c3] 28
  obtain ⟨g, hg⟩ : ∃ g, g = w.heap.size := ⟨_, rfl⟩
  have HB : Hid (Lib.IsBuilder TW TB B b bs W) := Lib.hid (hW ▸ isB_alloc hIs _)
  have HK : Hid (Lib.OthersKept TB (some b) w W) := Lib.hid (hW ▸ (Lib.OthersKept.refl TB (some b) w).alloc _)
  have hBW : B ≤ W.heap.size := Nat.le_trans hBw hbW.size
  have HBW := Lib.hid (hbW.mono hBw)
  skip
  rw [← hW, ← hg]
  rw [← hg] at ps
  have hgb : g ≠ b := by
    have : b < w.heap.size := by rcases hIs with h' | h' <;> exact h'.lt
    omega
  clear hW hbW hIs hBw hg
  obtain ⟨x0, x1, x2, x3, x4, x5⟩ := ps.six
  obtain ⟨y0, y1, y2, y3, y4, y5⟩ := H6.out.keep (fun p v hp hc => (HBW.out.cell (by rw [hp]; exact hkB)).trans hc)
  have HI1 := Lib.hid (HI.out.under HR.out HBW.out)
  have hl1 : bs.length + (termB t false).length ≤ 140737488355328 := by omega
  have HPS := Lib.hid ps
  clear ps
  go_upto_region 23 with (go_at_call 115; refine (IHT.out B b bs false _ R _ HI1.out HR.out HB.out hl1 hBW).mono ?_; rintro e w1 ⟨rfl, h1, hb1, hk1⟩)
  have pg : Blk w1 g 28 #[.int .i64 13, .string ⟨#[]⟩, .slice A1 0 c1, .bool false, .slice A2 0 c2, .slice (some ⟨kb, ko, none⟩) 2 c3] := hk1 g _ HPS.out (by simpa using hgb) (fun c fz e => by injection e with _ e _; exact absurd e (by decide))
  have HBB := Lib.hid (HBW.out.trans hb1)
  have HK1 := Lib.hid (HK.out.trans hk1)
  have hB1 : B ≤ w1.heap.size := Nat.le_trans hBW hb1.size
  clear x0 x1 x2 x3 x4 x5 y0 y1 y2 y3 y4 y5
  obtain ⟨x0, x1, x2, x3, x4, x5⟩ := pg.six
  have H1 := Lib.hid h1
  have HPG := Lib.hid pg
  have hl2 : (bs ++ Lib.byteCells (termB t false)).length + (⟨#[32, 62, 61, 32]⟩ : ByteArray).size ≤ 140737488355328 := by rw [List.length_append, Lib.byteCells_length]; have : (⟨#[32, 62, 61, 32]⟩ : ByteArray).size = 4 := rfl; omega
  have hl3 : ((bs ++ Lib.byteCells (termB t false)) ++ Lib.strCells ⟨#[32, 62, 61, 32]⟩).length + (termB u false).length ≤ 140737488355328 := by rw [List.length_append, List.length_append, Lib.byteCells_length, Lib.strCells_length]; have : (⟨#[32, 62, 61, 32]⟩ : ByteArray).size = 4 := rfl; omega
  clear h1 hk1 hb1 pg
  go_wp2_with (first
    | (go_at_call 115; refine (IHU.out B b ((bs ++ Lib.byteCells (termB t false)) ++ Lib.strCells ⟨#[32, 62, 61, 32]⟩) false _ R _ HJ3.out HR.out (.inr H3.out) hl3 hB3).mono ?_; rintro e w4 ⟨rfl, h4, hb4, hk4⟩)
    | (go_at_call 78; refine (wstr_w B b (bs ++ Lib.byteCells (termB t false)) ⟨#[32, 62, 61, 32]⟩ _ (.inr H1.out) hl2 hB1).mono ?_; rintro e w3 ⟨rfl, h3, hb3, hk3⟩; have pg3 : Blk w3 g 28 #[.int .i64 13, .string ⟨#[]⟩, .slice A1 0 c1, .bool false, .slice A2 0 c2, .slice (some ⟨kb, ko, none⟩) 2 c3] := hk3 g _ HPG.out (by simpa using hgb) (fun c fz e => by injection e with _ e _; exact absurd e (by decide)); have HB3 := Lib.hid (HBB.out.trans hb3); have HK3 := Lib.hid (HK1.out.trans hk3); have hB3 : B ≤ w3.heap.size := Nat.le_trans hB1 hb3.size; have H3 := Lib.hid h3; have HJ3 := Lib.hid (HJ.out.under HR.out HB3.out); clear x0 x1 x2 x3 x4 x5 h3 hk3 hb3; obtain ⟨x0, x1, x2, x3, x4, x5⟩ := pg3.six; obtain ⟨y0, y1, y2, y3, y4, y5⟩ := K6.out.keep (fun p v hp hc => (HB3.out.cell (by rw [hp]; exact hkB)).trans hc)))
  go_end0
  exact ⟨rfl, h4, HB3.out.trans hb4, HK3.out.trans hk4⟩
set_option maxHeartbeats 3200000 in
set_option maxRecDepth 100000 in
theorem atom_14 (t u : T) (iht : TermW t) (ihu : TermW u) : AtomW (P.nd 14 [t, u]) := by
  intro B b bs w R v h hR hIs hlen hBw
  have e : atomB (P.nd 14 [t, u]) = termB t false ++ ([32, 62, 32] ++ termB u false) := by
    unfold atomB
    rw [P.body_cmp (by decide), P.bytes_append, P.bytes_cons, P.bytes_cons, P.bytes_cons]
    rfl
  rw [e] at hlen ⊢
  clear e
  simp only [List.length_append, List.length_cons, List.length_nil] at hlen
  have e : bs ++ Lib.byteCells (termB t false ++ ([32, 62, 32] ++ termB u false)) = ((bs ++ Lib.byteCells (termB t false)) ++ Lib.strCells ⟨#[32, 62, 32]⟩) ++ Lib.byteCells (termB u false) := by simp [Lib.byteCells, Lib.strCells]
  rw [e]
  clear e
  rw [P.nd, T.In] at h
  obtain ⟨A1, c1, A2, c2, A3, c3, rfl, _, _, hc3, hk⟩ := h
  obtain ⟨kb, ko, rfl, hRk, hI⟩ := hk (by simp)
  rw [T.Ins, T.Ins] at hI
  obtain ⟨⟨v0, v1, v2, v3, v4, v5, h6, hI0⟩, ⟨u0, u1, u2, u3, u4, u5, k6, hJ0⟩, _⟩ := hI
  have hkB := hR kb hRk
  have IHT := Lib.hid iht
  have IHU := Lib.hid ihu
  have H6 := Lib.hid h6
  have K6 := Lib.hid k6
  have HI := Lib.hid hI0
  have HJ := Lib.hid hJ0
  have HR := Lib.hid hR
  clear iht ihu h6 hI0 k6 hJ0 hR hk
  unfold tv
  simp only [List.length_nil, List.length_cons, Nat.zero_add, Nat.reduceAdd]
  go_enter Tryz.func80, Tryz.ntmps80
  go_upto_region 22 with (fail)
  obtain ⟨W, hW, ps, hbW⟩ := made_blk w #[.int .i64 14, .string ⟨#[]⟩, .slice A1 0 c1, .bool false, .slice A2 0 c2, .slice (some ⟨kb, ko, none⟩) 2 c3] 28
  obtain ⟨g, hg⟩ : ∃ g, g = w.heap.size := ⟨_, rfl⟩
  have HB : Hid (Lib.IsBuilder TW TB B b bs W) := Lib.hid (hW ▸ isB_alloc hIs _)
  have HK : Hid (Lib.OthersKept TB (some b) w W) := Lib.hid (hW ▸ (Lib.OthersKept.refl TB (some b) w).alloc _)
  have hBW : B ≤ W.heap.size := Nat.le_trans hBw hbW.size
  have HBW := Lib.hid (hbW.mono hBw)
  skip
  rw [← hW, ← hg]
  rw [← hg] at ps
  have hgb : g ≠ b := by
    have : b < w.heap.size := by rcases hIs with h' | h' <;> exact h'.lt
    omega
  clear hW hbW hIs hBw hg
  obtain ⟨x0, x1, x2, x3, x4, x5⟩ := ps.six
  obtain ⟨y0, y1, y2, y3, y4, y5⟩ := H6.out.keep (fun p v hp hc => (HBW.out.cell (by rw [hp]; exact hkB)).trans hc)
  have HI1 := Lib.hid (HI.out.under HR.out HBW.out)
  have hl1 : bs.length + (termB t false).length ≤ 140737488355328 := by omega
  have HPS := Lib.hid ps
  clear ps
  go_upto_region 23 with (go_at_call 115; refine (IHT.out B b bs false _ R _ HI1.out HR.out HB.out hl1 hBW).mono ?_; rintro e w1 ⟨rfl, h1, hb1, hk1⟩)
  have pg : Blk w1 g 28 #[.int .i64 14, .string ⟨#[]⟩, .slice A1 0 c1, .bool false, .slice A2 0 c2, .slice (some ⟨kb, ko, none⟩) 2 c3] := hk1 g _ HPS.out (by simpa using hgb) (fun c fz e => by injection e with _ e _; exact absurd e (by decide))
  have HBB := Lib.hid (HBW.out.trans hb1)
  have HK1 := Lib.hid (HK.out.trans hk1)
  have hB1 : B ≤ w1.heap.size := Nat.le_trans hBW hb1.size
  clear x0 x1 x2 x3 x4 x5 y0 y1 y2 y3 y4 y5
  obtain ⟨x0, x1, x2, x3, x4, x5⟩ := pg.six
  have H1 := Lib.hid h1
  have HPG := Lib.hid pg
  have hl2 : (bs ++ Lib.byteCells (termB t false)).length + (⟨#[32, 62, 32]⟩ : ByteArray).size ≤ 140737488355328 := by rw [List.length_append, Lib.byteCells_length]; have : (⟨#[32, 62, 32]⟩ : ByteArray).size = 3 := rfl; omega
  have hl3 : ((bs ++ Lib.byteCells (termB t false)) ++ Lib.strCells ⟨#[32, 62, 32]⟩).length + (termB u false).length ≤ 140737488355328 := by rw [List.length_append, List.length_append, Lib.byteCells_length, Lib.strCells_length]; have : (⟨#[32, 62, 32]⟩ : ByteArray).size = 3 := rfl; omega
  clear h1 hk1 hb1 pg
  go_wp2_with (first
    | (go_at_call 115; refine (IHU.out B b ((bs ++ Lib.byteCells (termB t false)) ++ Lib.strCells ⟨#[32, 62, 32]⟩) false _ R _ HJ3.out HR.out (.inr H3.out) hl3 hB3).mono ?_; rintro e w4 ⟨rfl, h4, hb4, hk4⟩)
    | (go_at_call 78; refine (wstr_w B b (bs ++ Lib.byteCells (termB t false)) ⟨#[32, 62, 32]⟩ _ (.inr H1.out) hl2 hB1).mono ?_; rintro e w3 ⟨rfl, h3, hb3, hk3⟩; have pg3 : Blk w3 g 28 #[.int .i64 14, .string ⟨#[]⟩, .slice A1 0 c1, .bool false, .slice A2 0 c2, .slice (some ⟨kb, ko, none⟩) 2 c3] := hk3 g _ HPG.out (by simpa using hgb) (fun c fz e => by injection e with _ e _; exact absurd e (by decide)); have HB3 := Lib.hid (HBB.out.trans hb3); have HK3 := Lib.hid (HK1.out.trans hk3); have hB3 : B ≤ w3.heap.size := Nat.le_trans hB1 hb3.size; have H3 := Lib.hid h3; have HJ3 := Lib.hid (HJ.out.under HR.out HB3.out); clear x0 x1 x2 x3 x4 x5 h3 hk3 hb3; obtain ⟨x0, x1, x2, x3, x4, x5⟩ := pg3.six; obtain ⟨y0, y1, y2, y3, y4, y5⟩ := K6.out.keep (fun p v hp hc => (HB3.out.cell (by rw [hp]; exact hkB)).trans hc)))
  go_end0
  exact ⟨rfl, h4, HB3.out.trans hb4, HK3.out.trans hk4⟩
end Go.Proofs.YthiadenmljbdaaaGreatDoor
end
section
namespace Go.Proofs.YthiadenmljbdaaaGreatDoor
open Go.RowKit
open Go.Shelf
attribute [local go_sem] Oper.semAt_some
set_option maxHeartbeats 2000000 in
set_option maxRecDepth 100000 in
theorem atom_div (m : List Nat) (hml : m.length ≤ 1099511627776) (t : T) (ih : TermW t) : AtomW (.node 15 ⟨#[]⟩ [] false m [t]) := by
  intro B b bs w R v h hR hIs hlen hBw
  have e : atomB (.node 15 ⟨#[]⟩ [] false m [t]) = (N.txt (N.nv m) ++ [32, 100, 105, 118, 105, 100, 101, 115, 32]) ++ termB t false := by
    unfold atomB
    rw [P.body_div, P.bytes_cons, P.bytes_cons, P.bytes_cons, P.bytes_cons]
    rw [List.append_assoc]
    rfl
  rw [e] at hlen ⊢
  clear e
  rw [T.In] at h
  obtain ⟨A1, c1, A2, c2, A3, c3, rfl, _, hs2, hc3, hk⟩ := h
  obtain ⟨kb, ko, rfl, hRk, hI⟩ := hk (by simp)
  rw [T.Ins] at hI
  obtain ⟨⟨v0, v1, v2, v3, v4, v5, h6, hI0⟩, _⟩ := hI
  have hkB := hR kb hRk
  obtain ⟨S, hS⟩ : ∃ S : ByteArray, S = ⟨(N.txt (N.nv m)).toArray⟩ := ⟨_, rfl⟩
  have hsz : S.size = (N.txt (N.nv m)).length := by rw [hS]; simp [ByteArray.size]
  have HSC : Hid (Lib.strCells (S ++ ⟨#[32, 100, 105, 118, 105, 100, 101, 115, 32]⟩) = Lib.byteCells (N.txt (N.nv m) ++ [32, 100, 105, 118, 105, 100, 101, 115, 32])) := Lib.hid (by rw [hS]; simp [Lib.strCells, Lib.byteCells])
  have hsz2 : (S ++ ⟨#[32, 100, 105, 118, 105, 100, 101, 115, 32]⟩ : ByteArray).size = S.size + 9 := by rw [ByteArray.size_append]; rfl
  have hlS : bs.length + (S ++ ⟨#[32, 100, 105, 118, 105, 100, 101, 115, 32]⟩ : ByteArray).size ≤ 140737488355328 := by simp only [List.length_append, List.length_cons, List.length_nil] at hlen; omega
  have hl1 : (bs ++ Lib.strCells (S ++ ⟨#[32, 100, 105, 118, 105, 100, 101, 115, 32]⟩)).length + (termB t false).length ≤ 140737488355328 := by rw [List.length_append, Lib.strCells_length]; simp only [List.length_append, List.length_cons, List.length_nil] at hlen; omega
  have hcat : ¬ (9223372036854775807 < S.size + (⟨#[32, 100, 105, 118, 105, 100, 101, 115, 32]⟩ : ByteArray).size) := by have : (⟨#[32, 100, 105, 118, 105, 100, 101, 115, 32]⟩ : ByteArray).size = 9 := rfl; omega
  have hcat2 : ¬ (9223372036854775807 < S.size + 9) := by omega
  have HNT := Lib.hid (fun (w : World) (h : SlR w R A2 c2 m) => hS ▸ num_text h hml)
  have HS2 := Lib.hid hs2
  have HR := Lib.hid hR
  have IH := Lib.hid ih
  have H6 := Lib.hid h6
  have HI := Lib.hid hI0
  have HL1 := Lib.hid hl1
  clear hsz hlen hS hs2 hR ih h6 hI0 hk hl1 hsz2
  rw [Lib.byteCells_append, ← List.append_assoc, ← HSC.out]
  unfold tv
  simp only [List.length_nil, List.length_cons, Nat.zero_add]
  go_enter Tryz.func80, Tryz.ntmps80
  go_upto_region 8 with (fail)
  obtain ⟨W, hW, ps, hbW⟩ := made_blk w #[.int .i64 15, .string ⟨#[]⟩, .slice A1 0 c1, .bool false, .slice A2 m.length c2, .slice (some ⟨kb, ko, none⟩) 1 c3] 28
  obtain ⟨g, hg⟩ : ∃ g, g = w.heap.size := ⟨_, rfl⟩
  have HB : Hid (Lib.IsBuilder TW TB B b bs W) := Lib.hid (hW ▸ isB_alloc hIs _)
  have HK : Hid (Lib.OthersKept TB (some b) w W) := Lib.hid (hW ▸ (Lib.OthersKept.refl TB (some b) w).alloc _)
  have hBW : B ≤ W.heap.size := Nat.le_trans hBw hbW.size
  have HBW := Lib.hid (hbW.mono hBw)
  have HS3 := Lib.hid (HS2.out.under HR.out HBW.out)
  rw [← hW, ← hg]
  rw [← hg] at ps
  have hgb : g ≠ b := by
    have : b < w.heap.size := by rcases hIs with h' | h' <;> exact h'.lt
    omega
  clear hW hbW hIs hBw hg
  obtain ⟨x0, x1, x2, x3, x4, x5⟩ := ps.six
  refine wp_region_held_drew (S := fun w' => w'.cell? ⟨g, 3, none⟩ = some (.bool false) ∧ w'.cell? ⟨g, 4, none⟩ = some (.slice A2 m.length c2)) (by kernel_rfl) (by exact ⟨x3, x4⟩) (fun hHeld => ?_)
  refine take_at 0 (by kernel_rfl) (by kernel_rfl) (by kernel_rfl) (fun _ _ d _ _ h => by cases d <;> exact h) ⟨_, rfl⟩ (by assumption) (fun o ho => ?_)
  simp only [List.getElem?_toArray, List.getElem?_cons_zero, Option.some.injEq] at ho
  subst ho
  refine ⟨?_, ⟨by rfl, ?_⟩, ?_⟩
  rotate_left
  · intro w hSw
    (try dsimp only at hSw)
    obtain ⟨hS1, hS2⟩ := hSw
    (go_simp; try with_reducible rfl)
  (try simp only [Act.put, List.setIfInBounds_toArray, List.set_cons_zero, List.set_cons_succ])
  refine take_at 1 (by kernel_rfl) (by kernel_rfl) (by kernel_rfl) (fun _ _ d _ _ h => by cases d <;> exact h) ⟨_, rfl⟩ (by assumption) (fun o ho => ?_)
  simp only [List.getElem?_toArray, List.getElem?_cons_succ, List.getElem?_cons_zero, Option.some.injEq] at ho
  subst ho
  refine ⟨?_, ⟨by rfl, ?_⟩, ?_⟩
  rotate_left
  · intro w hSw
    (try dsimp only at hSw)
    obtain ⟨hS1, hS2⟩ := hSw
    (go_simp; try with_reducible rfl)
  (try simp only [Act.put, List.setIfInBounds_toArray, List.set_cons_zero, List.set_cons_succ])
  refine take_at 2 (by kernel_rfl) (by kernel_rfl) (by kernel_rfl) (fun _ _ d _ _ h => by cases d <;> exact h) ⟨_, rfl⟩ (by assumption) (fun o ho => ?_)
  simp only [List.getElem?_toArray, List.getElem?_cons_succ, List.getElem?_cons_zero, Option.some.injEq] at ho
  subst ho
  refine ⟨?_, ⟨by rfl, ?_⟩, ?_⟩
  rotate_left
  · intro w hSw
    (try dsimp only at hSw)
    obtain ⟨hS1, hS2⟩ := hSw
    (go_simp; try with_reducible rfl)
  (try simp only [Act.put, List.setIfInBounds_toArray, List.set_cons_zero, List.set_cons_succ])
  refine take_at 3 (by kernel_rfl) (by kernel_rfl) (by kernel_rfl) (fun _ _ d _ _ h => by cases d <;> exact h) ⟨_, rfl⟩ (by assumption) (fun o ho => ?_)
  simp only [List.getElem?_toArray, List.getElem?_cons_succ, List.getElem?_cons_zero, Option.some.injEq] at ho
  subst ho
  refine ⟨?_, ⟨by rfl, ?_⟩, ?_⟩
  rotate_left
  · intro w hSw
    (try dsimp only at hSw)
    obtain ⟨hS1, hS2⟩ := hSw
    (go_simp; try with_reducible rfl)
  (try simp only [Act.put, List.setIfInBounds_toArray, List.set_cons_zero, List.set_cons_succ])
  refine take_at 4 (by kernel_rfl) (by kernel_rfl) (by kernel_rfl) (fun _ _ d _ _ h => by cases d <;> exact h) ⟨_, rfl⟩ (by assumption) (fun o ho => ?_)
  simp only [List.getElem?_toArray, List.getElem?_cons_succ, List.getElem?_cons_zero, Option.some.injEq] at ho
  subst ho
  refine ⟨?_, ⟨by rfl, ?_⟩, ?_⟩
  rotate_left
  · intro w hSw
    (try dsimp only at hSw)
    obtain ⟨hS1, hS2⟩ := hSw
    (go_simp; try with_reducible rfl)
  (try simp only [Act.put, List.setIfInBounds_toArray, List.set_cons_zero, List.set_cons_succ])
  refine wpAnyH_ready (rs := [5]) (by kernel_rfl) (by simp) ?_
  refine ready_at 5 ⟨_, rfl⟩ (fun o ho K hK => ?_) AllReadyH.nil
  simp only [List.getElem?_toArray, List.getElem?_cons_succ, List.getElem?_cons_zero, Option.some.injEq] at ho
  subst ho
  go_simp
  go_at_call 114
  refine (HNT.out W.drew (HS3.out.keep (fun _ _ _ h => h) (fun _ h => h))).mono ?_
  rintro e w1 ⟨rfl, hb1⟩
  have hB1 : B ≤ w1.heap.size := Nat.le_trans hBW hb1.size
  have HB1 := Lib.hid (isB_below (show Lib.IsBuilder TW TB B b bs W.drew from HB.out) hb1)
  have HBW1 := Lib.hid ((HBW.out.drew).trans (hb1.mono hBW))
  have HK1 := Lib.hid ((HK.out.drew).trans (ok_below hb1))
  have pg1 : Blk w1 g 28 #[.int .i64 15, .string ⟨#[]⟩, .slice A1 0 c1, .bool false, .slice A2 m.length c2, .slice (some ⟨kb, ko, none⟩) 1 c3] := ok_below hb1 g _ ps (by simpa using hgb) (fun c fz e => by injection e with _ e _; exact absurd e (by decide))
  clear hb1
  refine hK.out _ _ ?_ (fun hHeld2 => ?_)
  · obtain ⟨_, _, _, y3, y4, _⟩ := pg1.six
    exact ⟨y3, y4⟩
  replace hHeld := hHeld2
  clear hK K hHeld2
  (try simp only [List.setIfInBounds_toArray, List.set_cons_zero, List.set_cons_succ])
  refine take_at 6 (by kernel_rfl) (by kernel_rfl) (by kernel_rfl) (fun _ _ d _ _ h => by cases d <;> exact h) ⟨_, rfl⟩ (by assumption) (fun o ho => ?_)
  simp only [List.getElem?_toArray, List.getElem?_cons_succ, List.getElem?_cons_zero, Option.some.injEq] at ho
  subst ho
  refine ⟨?_, ⟨by rfl, ?_⟩, ?_⟩
  rotate_left
  · intro w hSw
    (try dsimp only at hSw)
    obtain ⟨hS1, hS2⟩ := hSw
    (go_simp; try with_reducible rfl)
  (try simp only [Act.put, List.setIfInBounds_toArray, List.set_cons_zero, List.set_cons_succ])
  refine wpAnyH_ready (rs := [7]) (by kernel_rfl) (by simp) ?_
  refine ready_at 7 ⟨_, rfl⟩ (fun o ho K hK => ?_) AllReadyH.nil
  simp only [List.getElem?_toArray, List.getElem?_cons_succ, List.getElem?_cons_zero, Option.some.injEq] at ho
  subst ho
  go_simp
  go_at_call 78
  refine (wstr_w B b bs _ w1 HB1.out ?_ hB1).mono ?_
  · exact hlS
  rintro e w2 ⟨rfl, h2, hb2, hk2⟩
  have pg2 : Blk w2 g 28 #[.int .i64 15, .string ⟨#[]⟩, .slice A1 0 c1, .bool false, .slice A2 m.length c2, .slice (some ⟨kb, ko, none⟩) 1 c3] := hk2 g _ pg1 (by simpa using hgb) (fun c fz e => by injection e with _ e _; exact absurd e (by decide))
  have HBB := Lib.hid ((HBW1.out).trans hb2)
  have HK2 := Lib.hid ((HK1.out).trans hk2)
  have hB2 : B ≤ w2.heap.size := Nat.le_trans hB1 hb2.size
  have H2 := Lib.hid h2
  clear h2 hb2 hk2
  refine hK.out _ _ ?_ (fun hHeld2 => ?_)
  · obtain ⟨_, _, _, y3, y4, _⟩ := pg2.six
    exact ⟨y3, y4⟩
  replace hHeld := hHeld2
  clear hK K hHeld2
  (try simp only [List.setIfInBounds_toArray, List.set_cons_zero, List.set_cons_succ])
  refine wpAnyH_done (by kernel_rfl) ?_ _
  clear hHeld x0 x1 x2 x3 x4 x5
  have HI1 := Lib.hid (HI.out.under HR.out HBB.out)
  obtain ⟨y0, y1, y2, y3, y4, y5⟩ := H6.out.keep (fun p v hp hc => (HBB.out.cell (by rw [hp]; exact hkB)).trans hc)
  obtain ⟨x0, x1, x2, x3, x4, x5⟩ := pg2.six
  clear ps pg1 pg2
  go_wp2_with (go_at_call 115; refine (IH.out B b (bs ++ Lib.strCells (S ++ ⟨#[32, 100, 105, 118, 105, 100, 101, 115, 32]⟩)) false _ R _ HI1.out HR.out (.inr H2.out) HL1.out hB2).mono ?_; rintro e w3 ⟨rfl, h3, hb3, hk3⟩)
  refine bodyPost_ret (results_none rfl _ _ _) rfl ?_
  exact ⟨rfl, h3, HBB.out.trans hb3, HK2.out.trans hk3⟩
theorem atom_cmp (k : Int) (hk : 9 ≤ k ∧ k ≤ 14) (t u : T) (iht : TermW t) (ihu : TermW u) : AtomW (P.nd k [t, u]) := by
  have : k = 9 ∨ k = 10 ∨ k = 11 ∨ k = 12 ∨ k = 13 ∨ k = 14 := by omega
  rcases this with rfl | rfl | rfl | rfl | rfl | rfl
  · exact atom_9 t u iht ihu
  · exact atom_10 t u iht ihu
  · exact atom_11 t u iht ihu
  · exact atom_12 t u iht ihu
  · exact atom_13 t u iht ihu
  · exact atom_14 t u iht ihu
end Go.Proofs.YthiadenmljbdaaaGreatDoor
end
section
namespace Go.Proofs.YthiadenmljbdaaaGreatDoor
open Go.RowKit
open Go.Shelf
attribute [local go_sem] Oper.semAt_some
abbrev ta (k : Int) (nm : ByteArray) (A1 : Option Addr) (n1 c1 : Nat) (ng : Bool) (A2 : Option Addr) (n2 c2 : Nat) (A3 : Option Addr) (n3 c3 : Nat) : Array Value :=
  #[.int .i64 k, .string nm, .slice A1 n1 c1, .bool ng, .slice A2 n2 c2, .slice A3 n3 c3]
set_option maxHeartbeats 800000 in
set_option maxRecDepth 100000 in
theorem level_7 (nm : ByteArray) (A1 : Option Addr) (n1 c1 : Nat) (ng : Bool) (A2 : Option Addr) (n2 c2 : Nat) (A3 : Option Addr) (n3 c3 : Nat) (w : World) :
    Calls Tryz.prog 75 #[.agg (ta 7 nm A1 n1 c1 ng A2 n2 c2 A3 n3 c3)] w fun e w' => e = .returned (.int .i64 6) ∧ Below w.heap.size w w' := by
  go_enter Tryz.func75, Tryz.ntmps75
  go_wp2_with fail
  go_ret
  exact ⟨rfl, below_alloc1 _ _⟩
set_option maxHeartbeats 800000 in
set_option maxRecDepth 100000 in
theorem level_8 (nm : ByteArray) (A1 : Option Addr) (n1 c1 : Nat) (ng : Bool) (A2 : Option Addr) (n2 c2 : Nat) (A3 : Option Addr) (n3 c3 : Nat) (w : World) :
    Calls Tryz.prog 75 #[.agg (ta 8 nm A1 n1 c1 ng A2 n2 c2 A3 n3 c3)] w fun e w' => e = .returned (.int .i64 6) ∧ Below w.heap.size w w' := by
  go_enter Tryz.func75, Tryz.ntmps75
  go_wp2_with fail
  go_ret
  exact ⟨rfl, below_alloc1 _ _⟩
set_option maxHeartbeats 800000 in
set_option maxRecDepth 100000 in
theorem level_9 (nm : ByteArray) (A1 : Option Addr) (n1 c1 : Nat) (ng : Bool) (A2 : Option Addr) (n2 c2 : Nat) (A3 : Option Addr) (n3 c3 : Nat) (w : World) :
    Calls Tryz.prog 75 #[.agg (ta 9 nm A1 n1 c1 ng A2 n2 c2 A3 n3 c3)] w fun e w' => e = .returned (.int .i64 6) ∧ Below w.heap.size w w' := by
  go_enter Tryz.func75, Tryz.ntmps75
  go_wp2_with fail
  go_ret
  exact ⟨rfl, below_alloc1 _ _⟩
set_option maxHeartbeats 800000 in
set_option maxRecDepth 100000 in
theorem level_10 (nm : ByteArray) (A1 : Option Addr) (n1 c1 : Nat) (ng : Bool) (A2 : Option Addr) (n2 c2 : Nat) (A3 : Option Addr) (n3 c3 : Nat) (w : World) :
    Calls Tryz.prog 75 #[.agg (ta 10 nm A1 n1 c1 ng A2 n2 c2 A3 n3 c3)] w fun e w' => e = .returned (.int .i64 6) ∧ Below w.heap.size w w' := by
  go_enter Tryz.func75, Tryz.ntmps75
  go_wp2_with fail
  go_ret
  exact ⟨rfl, below_alloc1 _ _⟩
set_option maxHeartbeats 800000 in
set_option maxRecDepth 100000 in
theorem level_11 (nm : ByteArray) (A1 : Option Addr) (n1 c1 : Nat) (ng : Bool) (A2 : Option Addr) (n2 c2 : Nat) (A3 : Option Addr) (n3 c3 : Nat) (w : World) :
    Calls Tryz.prog 75 #[.agg (ta 11 nm A1 n1 c1 ng A2 n2 c2 A3 n3 c3)] w fun e w' => e = .returned (.int .i64 6) ∧ Below w.heap.size w w' := by
  go_enter Tryz.func75, Tryz.ntmps75
  go_wp2_with fail
  go_ret
  exact ⟨rfl, below_alloc1 _ _⟩
set_option maxHeartbeats 800000 in
set_option maxRecDepth 100000 in
theorem level_12 (nm : ByteArray) (A1 : Option Addr) (n1 c1 : Nat) (ng : Bool) (A2 : Option Addr) (n2 c2 : Nat) (A3 : Option Addr) (n3 c3 : Nat) (w : World) :
    Calls Tryz.prog 75 #[.agg (ta 12 nm A1 n1 c1 ng A2 n2 c2 A3 n3 c3)] w fun e w' => e = .returned (.int .i64 6) ∧ Below w.heap.size w w' := by
  go_enter Tryz.func75, Tryz.ntmps75
  go_wp2_with fail
  go_ret
  exact ⟨rfl, below_alloc1 _ _⟩
set_option maxHeartbeats 800000 in
set_option maxRecDepth 100000 in
theorem level_13 (nm : ByteArray) (A1 : Option Addr) (n1 c1 : Nat) (ng : Bool) (A2 : Option Addr) (n2 c2 : Nat) (A3 : Option Addr) (n3 c3 : Nat) (w : World) :
    Calls Tryz.prog 75 #[.agg (ta 13 nm A1 n1 c1 ng A2 n2 c2 A3 n3 c3)] w fun e w' => e = .returned (.int .i64 6) ∧ Below w.heap.size w w' := by
  go_enter Tryz.func75, Tryz.ntmps75
  go_wp2_with fail
  go_ret
  exact ⟨rfl, below_alloc1 _ _⟩
set_option maxHeartbeats 800000 in
set_option maxRecDepth 100000 in
theorem level_14 (nm : ByteArray) (A1 : Option Addr) (n1 c1 : Nat) (ng : Bool) (A2 : Option Addr) (n2 c2 : Nat) (A3 : Option Addr) (n3 c3 : Nat) (w : World) :
    Calls Tryz.prog 75 #[.agg (ta 14 nm A1 n1 c1 ng A2 n2 c2 A3 n3 c3)] w fun e w' => e = .returned (.int .i64 6) ∧ Below w.heap.size w w' := by
  go_enter Tryz.func75, Tryz.ntmps75
  go_wp2_with fail
  go_ret
  exact ⟨rfl, below_alloc1 _ _⟩
set_option maxHeartbeats 800000 in
set_option maxRecDepth 100000 in
theorem level_15 (nm : ByteArray) (A1 : Option Addr) (n1 c1 : Nat) (ng : Bool) (A2 : Option Addr) (n2 c2 : Nat) (A3 : Option Addr) (n3 c3 : Nat) (w : World) :
    Calls Tryz.prog 75 #[.agg (ta 15 nm A1 n1 c1 ng A2 n2 c2 A3 n3 c3)] w fun e w' => e = .returned (.int .i64 6) ∧ Below w.heap.size w w' := by
  go_enter Tryz.func75, Tryz.ntmps75
  go_wp2_with fail
  go_ret
  exact ⟨rfl, below_alloc1 _ _⟩
set_option maxHeartbeats 800000 in
set_option maxRecDepth 100000 in
theorem level_16 (nm : ByteArray) (A1 : Option Addr) (n1 c1 : Nat) (ng : Bool) (A2 : Option Addr) (n2 c2 : Nat) (A3 : Option Addr) (n3 c3 : Nat) (w : World) :
    Calls Tryz.prog 75 #[.agg (ta 16 nm A1 n1 c1 ng A2 n2 c2 A3 n3 c3)] w fun e w' => e = .returned (.int .i64 5) ∧ Below w.heap.size w w' := by
  go_enter Tryz.func75, Tryz.ntmps75
  go_wp2_with fail
  go_ret
  exact ⟨rfl, below_alloc1 _ _⟩
set_option maxHeartbeats 800000 in
set_option maxRecDepth 100000 in
theorem level_17 (nm : ByteArray) (A1 : Option Addr) (n1 c1 : Nat) (ng : Bool) (A2 : Option Addr) (n2 c2 : Nat) (A3 : Option Addr) (n3 c3 : Nat) (w : World) :
    Calls Tryz.prog 75 #[.agg (ta 17 nm A1 n1 c1 ng A2 n2 c2 A3 n3 c3)] w fun e w' => e = .returned (.int .i64 4) ∧ Below w.heap.size w w' := by
  go_enter Tryz.func75, Tryz.ntmps75
  go_wp2_with fail
  go_ret
  exact ⟨rfl, below_alloc1 _ _⟩
set_option maxHeartbeats 800000 in
set_option maxRecDepth 100000 in
theorem level_18 (nm : ByteArray) (A1 : Option Addr) (n1 c1 : Nat) (ng : Bool) (A2 : Option Addr) (n2 c2 : Nat) (A3 : Option Addr) (n3 c3 : Nat) (w : World) :
    Calls Tryz.prog 75 #[.agg (ta 18 nm A1 n1 c1 ng A2 n2 c2 A3 n3 c3)] w fun e w' => e = .returned (.int .i64 3) ∧ Below w.heap.size w w' := by
  go_enter Tryz.func75, Tryz.ntmps75
  go_wp2_with fail
  go_ret
  exact ⟨rfl, below_alloc1 _ _⟩
set_option maxHeartbeats 800000 in
set_option maxRecDepth 100000 in
theorem level_19 (nm : ByteArray) (A1 : Option Addr) (n1 c1 : Nat) (ng : Bool) (A2 : Option Addr) (n2 c2 : Nat) (A3 : Option Addr) (n3 c3 : Nat) (w : World) :
    Calls Tryz.prog 75 #[.agg (ta 19 nm A1 n1 c1 ng A2 n2 c2 A3 n3 c3)] w fun e w' => e = .returned (.int .i64 2) ∧ Below w.heap.size w w' := by
  go_enter Tryz.func75, Tryz.ntmps75
  go_wp2_with fail
  go_ret
  exact ⟨rfl, below_alloc1 _ _⟩
set_option maxHeartbeats 800000 in
set_option maxRecDepth 100000 in
theorem level_20 (nm : ByteArray) (A1 : Option Addr) (n1 c1 : Nat) (ng : Bool) (A2 : Option Addr) (n2 c2 : Nat) (A3 : Option Addr) (n3 c3 : Nat) (w : World) :
    Calls Tryz.prog 75 #[.agg (ta 20 nm A1 n1 c1 ng A2 n2 c2 A3 n3 c3)] w fun e w' => e = .returned (.int .i64 1) ∧ Below w.heap.size w w' := by
  go_enter Tryz.func75, Tryz.ntmps75
  go_wp2_with fail
  go_ret
  exact ⟨rfl, below_alloc1 _ _⟩
set_option maxHeartbeats 800000 in
set_option maxRecDepth 100000 in
theorem level_21 (nm : ByteArray) (A1 : Option Addr) (n1 c1 : Nat) (ng : Bool) (A2 : Option Addr) (n2 c2 : Nat) (A3 : Option Addr) (n3 c3 : Nat) (w : World) :
    Calls Tryz.prog 75 #[.agg (ta 21 nm A1 n1 c1 ng A2 n2 c2 A3 n3 c3)] w fun e w' => e = .returned (.int .i64 5) ∧ Below w.heap.size w w' := by
  go_enter Tryz.func75, Tryz.ntmps75
  go_wp2_with fail
  go_ret
  exact ⟨rfl, below_alloc1 _ _⟩
set_option maxHeartbeats 800000 in
set_option maxRecDepth 100000 in
theorem level_22 (nm : ByteArray) (A1 : Option Addr) (n1 c1 : Nat) (ng : Bool) (A2 : Option Addr) (n2 c2 : Nat) (A3 : Option Addr) (n3 c3 : Nat) (w : World) :
    Calls Tryz.prog 75 #[.agg (ta 22 nm A1 n1 c1 ng A2 n2 c2 A3 n3 c3)] w fun e w' => e = .returned (.int .i64 5) ∧ Below w.heap.size w w' := by
  go_enter Tryz.func75, Tryz.ntmps75
  go_wp2_with fail
  go_ret
  exact ⟨rfl, below_alloc1 _ _⟩
end Go.Proofs.YthiadenmljbdaaaGreatDoor
end

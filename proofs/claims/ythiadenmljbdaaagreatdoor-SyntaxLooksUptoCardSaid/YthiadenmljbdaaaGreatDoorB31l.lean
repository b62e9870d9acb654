/-
  l: the parts WBodyA WBodyN WBodyR WBodyQ WForm WPrint WFreeT WEqf WSame.
-/
import Derived.Test.YthiadenmljbdaaaGreatDoorB29l
import Derived.Test.YthiadenmljbdaaaGreatDoorB13l
import Derived.Test.YthiadenmljbdaaaGreatDoorB11l
import Derived.Test.YthiadenmljbdaaaGreatDoorB12l
import Derived.Test.YthiadenmljbdaaaGreatDoorB25l
import Derived.Test.YthiadenmljbdaaaGreatDoorB20l
import Derived.Test.YthiadenmljbdaaaGreatDoorB30l
import Derived.Maps.RangeWalk
import Derived.Sort.OwnSorted
import Derived.Test.YthiadenmljbdaaaGreatDoorB27l
import Derived.Test.YthiadenmljbdaaaGreatDoorB9l
import Derived.Deep.CutRange
import Derived.Test.YthiadenmljbdaaaGreatDoorB14l
namespace Go.Proofs.YthiadenmljbdaaaGreatDoor
section
open Go.RowKit
open Go.Shelf
attribute [local go_sem] Oper.semAt_some
set_option maxHeartbeats 3200000 in
set_option maxRecDepth 100000 in
theorem body_9 (t : T) (hk : t.k = 9) (ha : AtomW t) (hl : ∀ last, bodyB last t = atomB t) : BodyW t := by
 intro B b bs least last w R v hle hnp h hR hIs hlen hBw
 rw [hl last] at hlen ⊢
 have HA := Lib.hid ha
 clear ha hl
 have d1 : decide ((6 : Int) < (least : Int)) = false := by simp; rw [hk] at hnp; have : ¬ (6 < least) := fun h => hnp (.inl h); omega
 clear hnp hle
 have hIn := h
 obtain ⟨A1, c1, A2, c2, A3, c3, rfl, _⟩ := h.form
 obtain ⟨nm, hnm⟩ : ∃ x, t.nm = x := ⟨_, rfl⟩
 obtain ⟨ng, hng⟩ : ∃ x, t.ng = x := ⟨_, rfl⟩
 obtain ⟨n1, hn1⟩ : ∃ x, t.ns.length = x := ⟨_, rfl⟩
 obtain ⟨n2, hn2⟩ : ∃ x, t.mg.length = x := ⟨_, rfl⟩
 obtain ⟨n3, hn3⟩ : ∃ x, t.ks.length = x := ⟨_, rfl⟩
 rw [hk, hnm, hng, hn1, hn2, hn3] at hIn ⊢
 clear h hnm hng hn1 hn2 hn3
 unfold tv at hIn ⊢
 go_enter Tryz.func43, Tryz.ntmps43
 go_upto_region 1 with (fail)
 obtain ⟨W, hW, ps, hbW⟩ := made_blk w #[.int .i64 9, .string nm, .slice A1 n1 c1, .bool ng, .slice A2 n2 c2, .slice A3 n3 c3] 28
 obtain ⟨g, hg⟩ : ∃ g, g = w.heap.size := ⟨_, rfl⟩
 have HB : Hid (Lib.IsBuilder TW TB B b bs W) := Lib.hid (hW ▸ isB_alloc hIs _)
 have HK : Hid (Lib.OthersKept TB (some b) w W) := Lib.hid (hW ▸ (Lib.OthersKept.refl TB (some b) w).alloc _)
 have hBW : B ≤ W.heap.size := Nat.le_trans hBw hbW.size
 have HBW := Lib.hid (hbW.mono hBw)
 have HI1 := Lib.hid (hIn.under hR (hbW.mono hBw))
 have HR := Lib.hid hR
 rw [← hW, ← hg]
 rw [← hg] at ps
 have hgb : g ≠ b := by have := below_IsB hIs; omega
 clear hW hbW hIs hBw hg hIn hR
 obtain ⟨x0, x1, x2, x3, x4, x5⟩ := ps.six
 go_upto_region 6 with (go_at_call 75; refine (level_9 nm A1 n1 c1 ng A2 n2 c2 A3 n3 c3 W).mono ?_; rintro e w1 ⟨rfl, hb1⟩; have pg1 : Blk w1 g 28 #[.int .i64 9, .string nm, .slice A1 n1 c1, .bool ng, .slice A2 n2 c2, .slice A3 n3 c3] := ok_below hb1 g _ ps (by simpa using hgb) (fun c fz e => by injection e with _ e _; exact absurd e (by decide)); have HB1 := Lib.hid (isB_below HB.out hb1); have HBW1 := Lib.hid (HBW.out.trans (hb1.mono hBW)); have HK1 := Lib.hid (HK.out.trans (ok_below hb1)); have hB1 : B ≤ w1.heap.size := Nat.le_trans hBW hb1.size; have HI2 := Lib.hid (HI1.out.under HR.out (hb1.mono hBW)); clear x0 x1 x2 x3 x4 x5 hb1; obtain ⟨x0, x1, x2, x3, x4, x5⟩ := pg1.six)
 go_wp2_with (go_at_call 80; refine (HA.out B b bs _ R _ HI2.out HR.out HB1.out hlen hB1).mono ?_; rintro e w2 ⟨rfl, h2, hb2, hk2⟩)
 go_end0
 exact ⟨rfl, h2, HBW1.out.trans hb2, HK1.out.trans hk2⟩
set_option maxHeartbeats 3200000 in
set_option maxRecDepth 100000 in
theorem body_15 (t : T) (hk : t.k = 15) (ha : AtomW t) (hl : ∀ last, bodyB last t = atomB t) : BodyW t := by
 intro B b bs least last w R v hle hnp h hR hIs hlen hBw
 rw [hl last] at hlen ⊢
 have HA := Lib.hid ha
 clear ha hl
 have d1 : decide ((6 : Int) < (least : Int)) = false := by simp; rw [hk] at hnp; have : ¬ (6 < least) := fun h => hnp (.inl h); omega
 clear hnp hle
 have hIn := h
 obtain ⟨A1, c1, A2, c2, A3, c3, rfl, _⟩ := h.form
 obtain ⟨nm, hnm⟩ : ∃ x, t.nm = x := ⟨_, rfl⟩
 obtain ⟨ng, hng⟩ : ∃ x, t.ng = x := ⟨_, rfl⟩
 obtain ⟨n1, hn1⟩ : ∃ x, t.ns.length = x := ⟨_, rfl⟩
 obtain ⟨n2, hn2⟩ : ∃ x, t.mg.length = x := ⟨_, rfl⟩
 obtain ⟨n3, hn3⟩ : ∃ x, t.ks.length = x := ⟨_, rfl⟩
 rw [hk, hnm, hng, hn1, hn2, hn3] at hIn ⊢
 clear h hnm hng hn1 hn2 hn3
 unfold tv at hIn ⊢
 go_enter Tryz.func43, Tryz.ntmps43
 go_upto_region 1 with (fail)
 obtain ⟨W, hW, ps, hbW⟩ := made_blk w #[.int .i64 15, .string nm, .slice A1 n1 c1, .bool ng, .slice A2 n2 c2, .slice A3 n3 c3] 28
 obtain ⟨g, hg⟩ : ∃ g, g = w.heap.size := ⟨_, rfl⟩
 have HB : Hid (Lib.IsBuilder TW TB B b bs W) := Lib.hid (hW ▸ isB_alloc hIs _)
 have HK : Hid (Lib.OthersKept TB (some b) w W) := Lib.hid (hW ▸ (Lib.OthersKept.refl TB (some b) w).alloc _)
 have hBW : B ≤ W.heap.size := Nat.le_trans hBw hbW.size
 have HBW := Lib.hid (hbW.mono hBw)
 have HI1 := Lib.hid (hIn.under hR (hbW.mono hBw))
 have HR := Lib.hid hR
 rw [← hW, ← hg]
 rw [← hg] at ps
 have hgb : g ≠ b := by have := below_IsB hIs; omega
 clear hW hbW hIs hBw hg hIn hR
 obtain ⟨x0, x1, x2, x3, x4, x5⟩ := ps.six
 go_upto_region 6 with (go_at_call 75; refine (level_15 nm A1 n1 c1 ng A2 n2 c2 A3 n3 c3 W).mono ?_; rintro e w1 ⟨rfl, hb1⟩; have pg1 : Blk w1 g 28 #[.int .i64 15, .string nm, .slice A1 n1 c1, .bool ng, .slice A2 n2 c2, .slice A3 n3 c3] := ok_below hb1 g _ ps (by simpa using hgb) (fun c fz e => by injection e with _ e _; exact absurd e (by decide)); have HB1 := Lib.hid (isB_below HB.out hb1); have HBW1 := Lib.hid (HBW.out.trans (hb1.mono hBW)); have HK1 := Lib.hid (HK.out.trans (ok_below hb1)); have hB1 : B ≤ w1.heap.size := Nat.le_trans hBW hb1.size; have HI2 := Lib.hid (HI1.out.under HR.out (hb1.mono hBW)); clear x0 x1 x2 x3 x4 x5 hb1; obtain ⟨x0, x1, x2, x3, x4, x5⟩ := pg1.six)
 go_wp2_with (go_at_call 80; refine (HA.out B b bs _ R _ HI2.out HR.out HB1.out hlen hB1).mono ?_; rintro e w2 ⟨rfl, h2, hb2, hk2⟩)
 go_end0
 exact ⟨rfl, h2, HBW1.out.trans hb2, HK1.out.trans hk2⟩
end
section
open Go.RowKit
open Go.Shelf
attribute [local go_sem] Oper.semAt_some
set_option maxHeartbeats 3200000 in
set_option maxRecDepth 100000 in
theorem body_16 (u : T) (ih : FormW u) : BodyW (P.nd 16 [u]) := by
 intro B b bs least last w R v hle hnp h hR hIs hlen hBw
 have e : bodyB last (P.nd 16 [u]) = [110, 111, 116, 32] ++ formB 5 last u := by
  unfold bodyB
  rw [P.body_not, P.bytes_cons, P.bytes_cons]
  rfl
 rw [e] at hlen ⊢
 simp only [List.length_append, List.length_cons, List.length_nil] at hlen
 have e2 : bs ++ Lib.byteCells ([110, 111, 116, 32] ++ formB 5 last u) = (bs ++ Lib.strCells ⟨#[110, 111, 116, 32]⟩) ++ Lib.byteCells (formB 5 last u) := by simp [Lib.byteCells, Lib.strCells]
 rw [e2]
 have hls : (⟨#[110, 111, 116, 32]⟩ : ByteArray).size = 4 := rfl
 have hl1 : bs.length + (⟨#[110, 111, 116, 32]⟩ : ByteArray).size ≤ 140737488355328 := by omega
 have hl2 : (bs ++ Lib.strCells ⟨#[110, 111, 116, 32]⟩).length + (formB 5 last u).length ≤ 140737488355328 := by rw [List.length_append, Lib.strCells_length]; omega
 have HIH := Lib.hid ih
 have d1 : decide ((5 : Int) < (least : Int)) = false := by simp; omega
 clear e e2 hnp hle ih hls
 rw [P.nd, T.In] at h
 obtain ⟨A1, c1, A2, c2, A3, c3, rfl, _, _, hc3, hk⟩ := h
 obtain ⟨kb, ko, rfl, hRk, hI⟩ := hk (by simp)
 rw [T.Ins] at hI
 obtain ⟨⟨v0, v1, v2, v3, v4, v5, h6, hIn⟩, _⟩ := hI
 have hkB := hR kb hRk
 have H6 := Lib.hid h6
 clear hk h6
 unfold tv
 simp only [List.length_nil, List.length_cons, Nat.zero_add]
 go_enter Tryz.func43, Tryz.ntmps43
 go_upto_region 1 with (fail)
 obtain ⟨W, hW, ps, hbW⟩ := made_blk w #[.int .i64 16, .string ⟨#[]⟩, .slice A1 0 c1, .bool false, .slice A2 0 c2, .slice (some ⟨kb, ko, none⟩) 1 c3] 28
 obtain ⟨g, hg⟩ : ∃ g, g = w.heap.size := ⟨_, rfl⟩
 have HB : Hid (Lib.IsBuilder TW TB B b bs W) := Lib.hid (hW ▸ isB_alloc hIs _)
 have HK : Hid (Lib.OthersKept TB (some b) w W) := Lib.hid (hW ▸ (Lib.OthersKept.refl TB (some b) w).alloc _)
 have hBW : B ≤ W.heap.size := Nat.le_trans hBw hbW.size
 have HBW := Lib.hid (hbW.mono hBw)
 have HI1 := Lib.hid (hIn.under hR (hbW.mono hBw))
 have HR := Lib.hid hR
 rw [← hW, ← hg]
 rw [← hg] at ps
 have hgb : g ≠ b := by have := below_IsB hIs; omega
 clear hW hbW hIs hBw hg hIn hR
 obtain ⟨x0, x1, x2, x3, x4, x5⟩ := ps.six
 go_upto_region 6 with (go_at_call 75; refine (level_16 ⟨#[]⟩ A1 0 c1 false A2 0 c2 (some ⟨kb, ko, none⟩) 1 c3 W).mono ?_; rintro e w1 ⟨rfl, hb1⟩; have pg1 : Blk w1 g 28 #[.int .i64 16, .string ⟨#[]⟩, .slice A1 0 c1, .bool false, .slice A2 0 c2, .slice (some ⟨kb, ko, none⟩) 1 c3] := ok_below hb1 g _ ps (by simpa using hgb) (fun c fz e => by injection e with _ e _; exact absurd e (by decide)); have HB1 := Lib.hid (isB_below HB.out hb1); have HBW1 := Lib.hid (HBW.out.trans (hb1.mono hBW)); have HK1 := Lib.hid (HK.out.trans (ok_below hb1)); have hB1 : B ≤ w1.heap.size := Nat.le_trans hBW hb1.size; have HI2 := Lib.hid (HI1.out.under HR.out (hb1.mono hBW)); clear x0 x1 x2 x3 x4 x5 hb1; obtain ⟨x0, x1, x2, x3, x4, x5⟩ := pg1.six)
 go_upto_region 18 with (go_at_call 78; refine (wstr_w B b bs ⟨#[110, 111, 116, 32]⟩ _ HB1.out hl1 hB1).mono ?_; rintro e w2 ⟨rfl, h2, hb2, hk2⟩)
 have pg2 : Blk w2 g 28 #[.int .i64 16, .string ⟨#[]⟩, .slice A1 0 c1, .bool false, .slice A2 0 c2, .slice (some ⟨kb, ko, none⟩) 1 c3] := hk2 g _ pg1 (by simpa using hgb) (fun c fz e => by injection e with _ e _; exact absurd e (by decide))
 have HBW2 := Lib.hid (HBW1.out.trans hb2)
 have HK2 := Lib.hid (HK1.out.trans hk2)
 have hB2 : B ≤ w2.heap.size := Nat.le_trans hB1 hb2.size
 have HI3 := Lib.hid (HI2.out.under HR.out hb2)
 have H2 := Lib.hid h2
 clear x0 x1 x2 x3 x4 x5 h2 hb2 hk2 ps pg1
 obtain ⟨x0, x1, x2, x3, x4, x5⟩ := pg2.six
 obtain ⟨y0, y1, y2, y3, y4, y5⟩ := H6.out.keep (fun p v hp hc => (HBW2.out.cell (by rw [hp]; exact hkB)).trans hc)
 go_wp2_with (go_at_call 43; refine (HIH.out B b (bs ++ Lib.strCells ⟨#[110, 111, 116, 32]⟩) 5 last _ R _ (by decide) HI3.out HR.out (.inr H2.out) hl2 hB2).mono ?_; rintro e w3 ⟨rfl, h3, hb3, hk3⟩)
 go_end0
 exact ⟨rfl, h3, HBW2.out.trans hb3, HK2.out.trans hk3⟩
end
section
open Go.RowKit
open Go.Shelf
attribute [local go_sem] Oper.semAt_some
set_option maxHeartbeats 3200000 in
set_option maxRecDepth 100000 in
theorem body_18 (t : T) (hk : t.k = 18) (l : List T) (hl : t.ks = l) (hf : ∀ k ∈ l, FormW k) (h0 : 0 < l.length) (hbk : l.length ≤ 1048576) (hb : ∀ last, bodyB last t = restB ⟨#[111, 114]⟩ 4 4 last l 0) : BodyW t := by
 intro B b bs least last w R v hle hnp h hR hIs hlen hBw
 rw [hb last] at hlen ⊢
 obtain ⟨TOT, hT⟩ : ∃ x, restB ⟨#[111, 114]⟩ 4 4 last l 0 = x := ⟨_, rfl⟩
 rw [hT] at hlen ⊢
 have HF := Lib.hid hf
 have HL := Lib.hid hl
 have HT := Lib.hid hT
 clear hf hl hT hb
 have d1 : decide ((3 : Int) < (least : Int)) = false := by simp; rw [hk] at hnp; have : ¬ (3 < least) := fun h => hnp (.inl h); omega
 clear hnp hle
 have hIn := h
 obtain ⟨A1, c1, A2, c2, A3, c3, rfl, _⟩ := h.form
 obtain ⟨nm, hnm⟩ : ∃ x, t.nm = x := ⟨_, rfl⟩
 obtain ⟨ng, hng⟩ : ∃ x, t.ng = x := ⟨_, rfl⟩
 obtain ⟨n1, hn1⟩ : ∃ x, t.ns.length = x := ⟨_, rfl⟩
 obtain ⟨n2, hn2⟩ : ∃ x, t.mg.length = x := ⟨_, rfl⟩
 obtain ⟨n3, hn3⟩ : ∃ x, t.ks.length = x := ⟨_, rfl⟩
 rw [hk, hnm, hng, hn1, hn2, hn3] at hIn ⊢
 clear h hnm hng hn1 hn2 hn3
 unfold tv at hIn ⊢
 go_enter Tryz.func43, Tryz.ntmps43
 go_upto_region 1 with (fail)
 obtain ⟨W, hW, ps, hbW⟩ := made_blk w #[.int .i64 18, .string nm, .slice A1 n1 c1, .bool ng, .slice A2 n2 c2, .slice A3 n3 c3] 28
 obtain ⟨g, hg⟩ : ∃ g, g = w.heap.size := ⟨_, rfl⟩
 have HB : Hid (Lib.IsBuilder TW TB B b bs W) := Lib.hid (hW ▸ isB_alloc hIs _)
 have HK : Hid (Lib.OthersKept TB (some b) w W) := Lib.hid (hW ▸ (Lib.OthersKept.refl TB (some b) w).alloc _)
 have hBW : B ≤ W.heap.size := Nat.le_trans hBw hbW.size
 have HBW := Lib.hid (hbW.mono hBw)
 have HI1 := Lib.hid (hIn.under hR (hbW.mono hBw))
 have HR := Lib.hid hR
 rw [← hW, ← hg]
 rw [← hg] at ps
 have hgb : g ≠ b := by have := below_IsB hIs; omega
 clear hW hbW hIs hBw hg hIn hR
 obtain ⟨x0, x1, x2, x3, x4, x5⟩ := ps.six
 go_upto_region 6 with (go_at_call 75; refine (level_18 nm A1 n1 c1 ng A2 n2 c2 A3 n3 c3 W).mono ?_; rintro e w1 ⟨rfl, hb1⟩; have pg1 : Blk w1 g 28 #[.int .i64 18, .string nm, .slice A1 n1 c1, .bool ng, .slice A2 n2 c2, .slice A3 n3 c3] := ok_below hb1 g _ ps (by simpa using hgb) (fun c fz e => by injection e with _ e _; exact absurd e (by decide)); have HB1 := Lib.hid (isB_below HB.out hb1); have HBW1 := Lib.hid (HBW.out.trans (hb1.mono hBW)); have HK1 := Lib.hid (HK.out.trans (ok_below hb1)); have hB1 : B ≤ w1.heap.size := Nat.le_trans hBW hb1.size; have HI2 := Lib.hid (HI1.out.under HR.out (hb1.mono hBW)); clear x0 x1 x2 x3 x4 x5 hb1; obtain ⟨x0, x1, x2, x3, x4, x5⟩ := pg1.six)
 go_wp2_with (go_at_call 77; refine (row_w t l HL.out HF.out h0 hbk ⟨#[111, 114]⟩ ⟨#[32, 111, 114, 32]⟩ rfl 4 4 (by decide) (by decide) last B b bs _ R _ HI2.out HR.out HB1.out TOT HT.out hlen hB1).mono ?_; rintro e w2 ⟨rfl, h2, hb2, hk2⟩)
 go_end0
 exact ⟨rfl, h2, HBW1.out.trans hb2, HK1.out.trans hk2⟩
end
section
open Go.RowKit
open Go.Shelf
attribute [local go_sem] Oper.semAt_some
def joinB (ns : List ByteArray) : List UInt8 := Lib.join (ns.map (·.data.toList)) [32]
theorem bytes_names (s : ByteArray) (ns : List ByteArray) (l : List P.It) : P.bytes (P.namesIt (s :: ns) ++ l) = joinB (s :: ns) ++ (32 :: P.bytes l) := by
 induction ns generalizing s with
 | nil => simp [P.namesIt, P.bytes, P.itB, joinB, Lib.join]
 | cons a r ih =>
  have h1 : P.namesIt (s :: a :: r) ++ l = P.Nm s :: none :: (P.namesIt (a :: r) ++ l) := rfl
  rw [h1, P.bytes_cons, P.bytes_cons, ih]
  simp [joinB, Lib.join, P.itB]
theorem join_w (w : World) (R : Nat → Prop) (A : Option Addr) (c : Nat) (ns : List ByteArray) (h : StrL w R A c ns) (h0 : 0 < ns.length) (hn : ns.length ≤ 1048576) (hlen : (joinB ns).length ≤ 140737488355328) :
    Calls Tryz.prog 79 #[.slice A ns.length c, .string ⟨#[32]⟩] w fun e w' => e = .returned (.string ⟨(joinB ns).toArray⟩) ∧ Below w.heap.size w w' := by
  obtain ⟨hcap, hc⟩ := h
  obtain ⟨b, o, rfl, _, hcs⟩ := hc h0
  refine Tryz.strings_Join b o c ns ⟨#[32]⟩ w (fun j x hx => ?_) (World.block_lt_of_cell? w _ (hcs 0 h0)) (by omega) hcap hlen
  have hj : j < ns.length := (List.getElem?_eq_some_iff.1 hx).1
  have := hcs j hj
  rw [List.getD_eq_getElem?_getD, hx] at this
  exact this
theorem StrL.under {w w' : World} {R : Nat → Prop} {A : Option Addr} {c : Nat} {l : List ByteArray} {B : Nat} (h : StrL w R A c l) (hR : ∀ g, R g → g < B) (hb : Below B w w') : StrL w' R A c l :=
 h.keep (fun _ _ hp hc => (hb.cell (hR _ hp)).trans hc) (fun _ h => h)
set_option maxHeartbeats 3200000 in
set_option maxRecDepth 100000 in
theorem body_21 (s : ByteArray) (ns : List ByteArray) (u : T) (hnl : (s :: ns).length ≤ 1048576) (ih : FormW u) : BodyW (.node 21 ⟨#[]⟩ (s :: ns) false [] [u]) := by
 intro B b bs least last w R v hle hnp h hR hIs hlen hBw
 obtain rfl : last = true := by
  cases last
  · exact absurd (.inr ⟨rfl, rfl⟩) hnp
  · rfl
 have e : bodyB true (.node 21 ⟨#[]⟩ (s :: ns) false [] [u]) = [115, 111, 109, 101, 32] ++ (joinB (s :: ns) ++ [32, 46, 32]) ++ formB 1 true u := by
  unfold bodyB
  rw [P.body_some, P.bytes_cons, P.bytes_cons, bytes_names, P.bytes_cons, P.bytes_cons, List.append_assoc, List.append_assoc]
  rfl
 rw [e] at hlen ⊢
 clear e
 simp only [List.length_append, List.length_cons, List.length_nil] at hlen
 obtain ⟨S, hS⟩ : ∃ S : ByteArray, S = ⟨(joinB (s :: ns)).toArray⟩ := ⟨_, rfl⟩
 have hsz : S.size = (joinB (s :: ns)).length := by rw [hS]; simp [ByteArray.size]
 have HSC : Hid (Lib.strCells (⟨#[115, 111, 109, 101, 32]⟩ ++ S ++ ⟨#[32, 46, 32]⟩) = Lib.byteCells ([115, 111, 109, 101, 32] ++ (joinB (s :: ns) ++ [32, 46, 32]))) := Lib.hid (by rw [hS]; simp [Lib.strCells, Lib.byteCells])
 have hz5 : (⟨#[115, 111, 109, 101, 32]⟩ : ByteArray).size = 5 := rfl
 have hz3 : (⟨#[32, 46, 32]⟩ : ByteArray).size = 3 := rfl
 have hsa : (⟨#[115, 111, 109, 101, 32]⟩ ++ S : ByteArray).size = 5 + S.size := by rw [ByteArray.size_append, hz5]
 have hsb : (⟨#[115, 111, 109, 101, 32]⟩ ++ S ++ ⟨#[32, 46, 32]⟩ : ByteArray).size = 5 + S.size + 3 := by rw [ByteArray.size_append, hsa, hz3]
 have hlS : bs.length + (⟨#[115, 111, 109, 101, 32]⟩ ++ S ++ ⟨#[32, 46, 32]⟩ : ByteArray).size ≤ 140737488355328 := by omega
 have hl1 : (bs ++ Lib.strCells (⟨#[115, 111, 109, 101, 32]⟩ ++ S ++ ⟨#[32, 46, 32]⟩)).length + (formB 1 true u).length ≤ 140737488355328 := by rw [List.length_append, Lib.strCells_length]; omega
 have hc2 : ¬ (9223372036854775807 < 5 + S.size) := by omega
 have hc4 : ¬ (9223372036854775807 < 5 + S.size + 3) := by omega
 have hjl : (joinB (s :: ns)).length ≤ 140737488355328 := by omega
 have HNT := Lib.hid (fun (w : World) (A : Option Addr) (c : Nat) (h : StrL w R A c (s :: ns)) => hS ▸ join_w w R A c (s :: ns) h (by simp) hnl hjl)
 have HIH := Lib.hid ih
 have HL1 := Lib.hid hl1
 have d1 : decide ((5 : Int) < (least : Int)) = false := by simp; omega
 clear hle hnp ih hsz hz5 hz3 hsa hsb hlen hS hl1 hjl
 rw [Lib.byteCells_append, ← List.append_assoc, ← HSC.out]
 rw [T.In] at h
 obtain ⟨A1, c1, A2, c2, A3, c3, rfl, hst, -, hc3, hk⟩ := h
 obtain ⟨kb, ko, rfl, hRk, hI⟩ := hk (by simp)
 rw [T.Ins] at hI
 obtain ⟨⟨v0, v1, v2, v3, v4, v5, h6, hIn⟩, -⟩ := hI
 have hkB := hR kb hRk
 have H6 := Lib.hid h6
 have HST := Lib.hid hst
 have hHR := Lib.hid hR
 clear hk h6 hst
 obtain ⟨nn, hnn⟩ : ∃ x, (s :: ns).length = x := ⟨_, rfl⟩
 unfold tv
 rw [hnn]
 have HNN := Lib.hid hnn
 clear hnn
 simp only [List.length_nil, List.length_cons, Nat.zero_add]
 go_enter Tryz.func43, Tryz.ntmps43
 go_upto_region 1 with (fail)
 obtain ⟨W, hW, ps, hbW⟩ := made_blk w #[.int .i64 21, .string ⟨#[]⟩, .slice A1 nn c1, .bool false, .slice A2 0 c2, .slice (some ⟨kb, ko, none⟩) 1 c3] 28
 obtain ⟨g, hg⟩ : ∃ g, g = w.heap.size := ⟨_, rfl⟩
 have HB : Hid (Lib.IsBuilder TW TB B b bs W) := Lib.hid (hW ▸ isB_alloc hIs _)
 have HK : Hid (Lib.OthersKept TB (some b) w W) := Lib.hid (hW ▸ (Lib.OthersKept.refl TB (some b) w).alloc _)
 have hBW : B ≤ W.heap.size := Nat.le_trans hBw hbW.size
 have HBW := Lib.hid (hbW.mono hBw)
 have HI1 := Lib.hid (hIn.under hR (hbW.mono hBw))
 have HR := Lib.hid hR
 rw [← hW, ← hg]
 rw [← hg] at ps
 have hgb : g ≠ b := by have := below_IsB hIs; omega
 clear hW hbW hIs hBw hg hIn hR
 obtain ⟨x0, x1, x2, x3, x4, x5⟩ := ps.six
 go_upto_region 20 with (go_at_call 75; refine (level_21 ⟨#[]⟩ A1 nn c1 false A2 0 c2 (some ⟨kb, ko, none⟩) 1 c3 W).mono ?_; rintro e w1 ⟨rfl, hb1⟩; have pg1 : Blk w1 g 28 #[.int .i64 21, .string ⟨#[]⟩, .slice A1 nn c1, .bool false, .slice A2 0 c2, .slice (some ⟨kb, ko, none⟩) 1 c3] := ok_below hb1 g _ ps (by simpa using hgb) (fun c fz e => by injection e with _ e _; exact absurd e (by decide)); have HB1 := Lib.hid (isB_below HB.out hb1); have HBW1 := Lib.hid (HBW.out.trans (hb1.mono hBW)); have HK1 := Lib.hid (HK.out.trans (ok_below hb1)); have hB1 : B ≤ w1.heap.size := Nat.le_trans hBW hb1.size; have HI2 := Lib.hid (HI1.out.under HR.out (hb1.mono hBW)); clear x0 x1 x2 x3 x4 x5 hb1; obtain ⟨x0, x1, x2, x3, x4, x5⟩ := pg1.six)
 have HST1 := Lib.hid (HST.out.under HR.out HBW1.out)
 refine wp_region_held_drew (S := fun w' => w'.cell? ⟨g, 2, none⟩ = some (.slice A1 nn c1)) (by kernel_rfl) (by exact x2) (fun hHeld => ?_)
 refine take_at 0 (by kernel_rfl) (by kernel_rfl) (by kernel_rfl) (fun _ _ d _ _ h => by cases d <;> exact h) ⟨_, rfl⟩ (by assumption) (fun o ho => ?_)
 simp only [zg1, zg3, zg4] at ho
 subst ho
 refine ⟨?_, ⟨by rfl, ?_⟩, ?_⟩
 rotate_left
 · intro w hSw
   (try dsimp only at hSw)
   (go_simp; try with_reducible rfl)
 (try simp only [Act.put, zs1, zs2, zs3])
 refine take_at 1 (by kernel_rfl) (by kernel_rfl) (by kernel_rfl) (fun _ _ d _ _ h => by cases d <;> exact h) ⟨_, rfl⟩ (by assumption) (fun o ho => ?_)
 simp only [zg1, zg2, zg3, zg4] at ho
 subst ho
 refine ⟨?_, ⟨by rfl, ?_⟩, ?_⟩
 rotate_left
 · intro w hSw
   (try dsimp only at hSw)
   (go_simp; try with_reducible rfl)
 (try simp only [Act.put, zs1, zs2, zs3])
 refine take_at 2 (by kernel_rfl) (by kernel_rfl) (by kernel_rfl) (fun _ _ d _ _ h => by cases d <;> exact h) ⟨_, rfl⟩ (by assumption) (fun o ho => ?_)
 simp only [zg1, zg2, zg3, zg4] at ho
 subst ho
 refine ⟨?_, ⟨by rfl, ?_⟩, ?_⟩
 rotate_left
 · intro w hSw
   (try dsimp only at hSw)
   (go_simp; try with_reducible rfl)
 (try simp only [Act.put, zs1, zs2, zs3])
 refine take_at 3 (by kernel_rfl) (by kernel_rfl) (by kernel_rfl) (fun _ _ d _ _ h => by cases d <;> exact h) ⟨_, rfl⟩ (by assumption) (fun o ho => ?_)
 simp only [zg1, zg2, zg3, zg4] at ho
 subst ho
 refine ⟨?_, ⟨by rfl, ?_⟩, ?_⟩
 rotate_left
 · intro w hSw
   (try dsimp only at hSw)
   (go_simp; try with_reducible rfl)
 (try simp only [Act.put, zs1, zs2, zs3])
 refine take_at 4 (by kernel_rfl) (by kernel_rfl) (by kernel_rfl) (fun _ _ d _ _ h => by cases d <;> exact h) ⟨_, rfl⟩ (by assumption) (fun o ho => ?_)
 simp only [zg1, zg2, zg3, zg4] at ho
 subst ho
 refine ⟨?_, ⟨by rfl, ?_⟩, ?_⟩
 rotate_left
 · intro w hSw
   (try dsimp only at hSw)
   (go_simp; try with_reducible rfl)
 (try simp only [Act.put, zs1, zs2, zs3])
 refine wpAnyH_ready (rs := [5]) (by kernel_rfl) (by simp) ?_
 refine ready_at 5 ⟨_, rfl⟩ (fun o ho K hK => ?_) AllReadyH.nil
 simp only [zg1, zg2, zg3, zg4] at ho
 subst ho
 go_simp
 go_at_call 79
 rw [← HNN.out]
 refine (HNT.out w1.drew A1 c1 (HST1.out.keep (fun _ _ _ h => h) (fun _ h => h))).mono ?_
 rw [HNN.out]
 rintro e w2 ⟨rfl, hb2⟩
 have hB2 : B ≤ w2.heap.size := Nat.le_trans hB1 hb2.size
 have HB2 := Lib.hid (isB_below (show Lib.IsBuilder TW TB B b bs w1.drew from HB1.out) hb2)
 have HBW2 := Lib.hid ((HBW1.out.drew).trans (hb2.mono hB1))
 have HK2 := Lib.hid ((HK1.out.drew).trans (ok_below hb2))
 have HI3 := Lib.hid (HI2.out.under HR.out ((Below.refl B w1).drew.trans (hb2.mono hB1)))
 have pg2 : Blk w2 g 28 #[.int .i64 21, .string ⟨#[]⟩, .slice A1 nn c1, .bool false, .slice A2 0 c2, .slice (some ⟨kb, ko, none⟩) 1 c3] := ok_below hb2 g _ pg1 (by simpa using hgb) (fun c fz e => by injection e with _ e _; exact absurd e (by decide))
 clear hb2
 refine hK.out _ _ ?_ (fun hHeld2 => ?_)
 · obtain ⟨_, _, y2, _, _, _⟩ := pg2.six
   exact y2
 replace hHeld := hHeld2
 clear hK K hHeld2
 (try simp only [zs1, zs2, zs3])
 refine take_at 6 (by kernel_rfl) (by kernel_rfl) (by kernel_rfl) (fun _ _ d _ _ h => by cases d <;> exact h) ⟨_, rfl⟩ (by assumption) (fun o ho => ?_)
 simp only [zg1, zg2, zg3, zg4] at ho
 subst ho
 refine ⟨?_, ⟨by rfl, ?_⟩, ?_⟩
 rotate_left
 · intro w hSw
   (try dsimp only at hSw)
   (go_simp; try with_reducible rfl)
 (try simp only [Act.put, zs1, zs2, zs3])
 refine take_at 7 (by kernel_rfl) (by kernel_rfl) (by kernel_rfl) (fun _ _ d _ _ h => by cases d <;> exact h) ⟨_, rfl⟩ (by assumption) (fun o ho => ?_)
 simp only [zg1, zg2, zg3, zg4] at ho
 subst ho
 refine ⟨?_, ⟨by rfl, ?_⟩, ?_⟩
 rotate_left
 · intro w hSw
   (try dsimp only at hSw)
   (go_simp; try with_reducible rfl)
 (try simp only [Act.put, zs1, zs2, zs3])
 refine wpAnyH_ready (rs := [8]) (by kernel_rfl) (by simp) ?_
 refine ready_at 8 ⟨_, rfl⟩ (fun o ho K hK => ?_) AllReadyH.nil
 simp only [zg1, zg2, zg3, zg4] at ho
 subst ho
 go_simp
 go_at_call 78
 refine (wstr_w B b bs _ w2 HB2.out ?_ hB2).mono ?_
 · exact hlS
 rintro e w3 ⟨rfl, h3, hb3, hk3⟩
 have pg3 : Blk w3 g 28 #[.int .i64 21, .string ⟨#[]⟩, .slice A1 nn c1, .bool false, .slice A2 0 c2, .slice (some ⟨kb, ko, none⟩) 1 c3] := hk3 g _ pg2 (by simpa using hgb) (fun c fz e => by injection e with _ e _; exact absurd e (by decide))
 have HBW3 := Lib.hid ((HBW2.out).trans hb3)
 have HK3 := Lib.hid ((HK2.out).trans hk3)
 have HI4 := Lib.hid (HI3.out.under HR.out hb3)
 have hB3 : B ≤ w3.heap.size := Nat.le_trans hB2 hb3.size
 have H3 := Lib.hid h3
 clear h3 hb3 hk3
 refine hK.out _ _ ?_ (fun hHeld2 => ?_)
 · obtain ⟨_, _, y2, _, _, _⟩ := pg3.six
   exact y2
 replace hHeld := hHeld2
 clear hK K hHeld2
 (try simp only [zs1, zs2, zs3])
 refine wpAnyH_done (by kernel_rfl) ?_ _
 clear hHeld x0 x1 x2 x3 x4 x5
 obtain ⟨y0, y1, y2, y3, y4, y5⟩ := H6.out.keep (fun p v hp hc => (HBW3.out.cell (by rw [hp]; exact hkB)).trans hc)
 obtain ⟨x0, x1, x2, x3, x4, x5⟩ := pg3.six
 clear ps pg1 pg2 pg3
 go_wp2_with (go_at_call 43; refine (HIH.out B b _ 1 true _ R _ (by decide) HI4.out HR.out (.inr H3.out) HL1.out hB3).mono ?_; rintro e w4 ⟨rfl, h4, hb4, hk4⟩)
 go_end0
 exact ⟨rfl, h4, HBW3.out.trans hb4, HK3.out.trans hk4⟩
end
section
open Go.RowKit
open Go.Shelf
theorem form_plain (t : T) (hl : 5 ≤ P.level t.k) (hb : P.binds t.k = false) (hw : BodyW t) : FormW t := by
 intro B b bs least last w R v hle h hR hIs hlen hBw
 have hc : ¬ (P.level t.k < least ∨ (P.binds t.k = true ∧ last = false)) := by
  rintro (h1 | h1)
  · omega
  · rw [hb] at h1; exact absurd h1.1 (by decide)
 rw [formB_body hc] at hlen ⊢
 exact hw B b bs least last w R v hle hc h hR hIs hlen hBw
theorem form_18 (t : T) (hk : t.k = 18) (hw : BodyW t) : FormW t := by
 intro B b bs least last w R v hle h hR hIs hlen hBw
 by_cases hc : P.level t.k < least ∨ (P.binds t.k = true ∧ last = false)
 ·
  rw [formB_par hc] at hlen ⊢
  simp only [List.length_append, List.length_cons, List.length_nil] at hlen
  have e : bs ++ Lib.byteCells (40 :: (bodyB true t ++ [41])) = ((bs ++ [Value.int .u8 40]) ++ Lib.byteCells (bodyB true t)) ++ [Value.int .u8 41] := by simp [Lib.byteCells]
  rw [e]
  have hl : 3 < least := by
   rcases hc with hc | hc
   · rw [hk] at hc; exact hc
   · rw [hk] at hc; exact absurd hc.1 (by decide)
  exact form_par_18 t hk hw B b bs least hl last w R v h hR hIs (by omega) hBw
 · rw [formB_body hc] at hlen ⊢
   exact hw B b bs least last w R v hle hc h hR hIs hlen hBw
theorem form_21 (t : T) (hk : t.k = 21) (hw : BodyW t) : FormW t := by
 intro B b bs least last w R v hle h hR hIs hlen hBw
 by_cases hc : P.level t.k < least ∨ (P.binds t.k = true ∧ last = false)
 ·
  rw [formB_par hc] at hlen ⊢
  simp only [List.length_append, List.length_cons, List.length_nil] at hlen
  have e : bs ++ Lib.byteCells (40 :: (bodyB true t ++ [41])) = ((bs ++ [Value.int .u8 40]) ++ Lib.byteCells (bodyB true t)) ++ [Value.int .u8 41] := by simp [Lib.byteCells]
  rw [e]
  have hl : last = false := by
   rcases hc with hc | hc
   · rw [hk] at hc; have : P.level 21 = 5 := rfl; omega
   · exact hc.2
  subst hl
  exact form_par_21 t hk hw B b bs least hle w R v h hR hIs (by omega) hBw
 · rw [formB_body hc] at hlen ⊢
   exact hw B b bs least last w R v hle hc h hR hIs hlen hBw
end
section
open Go.RowKit
open Go.Shelf
attribute [local go_sem] Oper.semAt_some
mutual
theorem in_lt {w : World} {R : Nat → Prop} : ∀ (t : T) (v : Value), T.In w R t v → T.In w (fun g => R g ∧ g < w.heap.size) t v
 | .node k nm ns ng mg ks, v, h => by
  have hr := fun b o => ins_lt (w := w) (R := R) b ks o
  rw [T.In] at h ⊢
  obtain ⟨A1, c1, A2, c2, A3, c3, e, h1, h2, h3, h4⟩ := h
  refine ⟨A1, c1, A2, c2, A3, c3, e, ⟨h1.1, fun hn => ?_⟩, ⟨h2.1, fun hn ad ea => ?_⟩, h3, fun hn => ?_⟩
  · obtain ⟨b, o, ea, hb, hc⟩ := h1.2 hn
    exact ⟨b, o, ea, ⟨hb, World.block_lt_of_cell? w _ (hc 0 hn)⟩, hc⟩
  · obtain ⟨b, o, ea2, hc⟩ := h2.1.cells hn
    rw [ea] at ea2
    injection ea2 with ea2
    subst ea2
    exact ⟨h2.2 hn _ ea, World.block_lt_of_cell? w _ (hc 0 hn)⟩
  ·
   obtain ⟨b, o, ea, hb, hi⟩ := h4 hn
   refine ⟨b, o, ea, ⟨hb, ?_⟩, hr b o hi⟩
   cases ks with
   | nil => exact absurd hn (by simp)
   | cons a r =>
    rw [T.Ins] at hi
    obtain ⟨⟨v0, v1, v2, v3, v4, v5, h6, _⟩, _⟩ := hi
    exact World.block_lt_of_cell? w _ h6.1
theorem ins_lt {w : World} {R : Nat → Prop} (b : Nat) : ∀ (ks : List T) (o : Nat), T.Ins w R b o ks → T.Ins w (fun g => R g ∧ g < w.heap.size) b o ks
 | [], _, _ => by rw [T.Ins]; trivial
 | t :: r, o, h => by
  have h1 := fun v => in_lt (w := w) (R := R) t v
  have h2 := fun o => ins_lt (w := w) (R := R) b r o
  rw [T.Ins] at h ⊢
  obtain ⟨⟨v0, v1, v2, v3, v4, v5, h6, hi⟩, hs⟩ := h
  exact ⟨⟨v0, v1, v2, v3, v4, v5, h6, h1 _ hi⟩, h2 _ hs⟩
end
end
section
open Go.RowKit
open Go.Shelf Go.Maps Go.Sort Go.WideMaps
theorem free_all : ∀ (M : Nat), FreeW M
 | 0, t, _, _, _, _, _, _, _, _, _, _, _, _, hN, _, _, _, _, _, _, _, _, _, _, _, _, _, _ => by have := T.bulk_pos t; omega
 | M + 1, t, w, R, v, B, bm, fm, n, m, Db, Df, β, φ, hN, hN2, h, hR, h1, h2, h3, h4, hb, hf, hc, hd, hbd, hn, hm => by
  have ih := free_all M
  by_cases k2 : t.k = 2
  · cases hq : (β t.nm.data.toList == 0) with
    | false => exact free_var0 M hN2 ih t k2 w R v B bm fm n m Db Df β φ hN h hR h1 h2 h3 h4 hb hf hc hd hbd hn hm hq
    | true => exact free_var1 M hN2 ih t k2 w R v B bm fm n m Db Df β φ hN h hR h1 h2 h3 h4 hb hf hc hd hbd hn hm hq
  · by_cases k21 : t.k = 21
    · exact free_bind21 M hN2 ih t k21 w R v B bm fm n m Db Df β φ hN h hR h1 h2 h3 h4 hb hf hc hd hbd hn hm
    · by_cases k22 : t.k = 22
      · exact free_bind22 M hN2 ih t k22 w R v B bm fm n m Db Df β φ hN h hR h1 h2 h3 h4 hb hf hc hd hbd hn hm
      · exact free_other M hN2 ih t k2 k21 k22 w R v B bm fm n m Db Df β φ hN h hR h1 h2 h3 h4 hb hf hc hd hbd hn hm
def FreeL (t : T) (L : List (List UInt8)) : Prop := L.Nodup ∧ (∀ x, x ∈ L ↔ t.fv (fun _ => 0) x = true) ∧ L.Pairwise (fun a b => leB a b = true)
theorem sorted_leB (l : List (List UInt8)) : (l.mergeSort leB).Pairwise (fun a b => leB a b = true) :=
 List.pairwise_mergeSort (fun a b c h1 h2 => by simp only [leB, decide_eq_true_eq] at *; exact List.le_trans h1 h2) (fun a b => by simp only [leB, Bool.or_eq_true, decide_eq_true_eq]; exact List.le_total a b) l
theorem freeL_of {t : T} {E : DU} {left : Lit → Bool} {ss : List (List UInt8)} (hC : Collected E left ss) (hl : ∀ kl, left kl = false) (hF : Fnd E (fun x => t.fv (fun _ => 0) x)) : FreeL t (ss.mergeSort leB) := by
 have hp := List.mergeSort_perm ss leB
 refine ⟨hp.nodup_iff.2 hC.1, fun x => ?_, sorted_leB ss⟩
 rw [hp.mem_iff, hC.2 x, hF x, hl]
 simp
set_option maxRecDepth 100000 in
set_option maxHeartbeats 4000000 in
theorem free_t (t : T) (w : World) (R : Nat → Prop) (v : Value) (hN : t.bulk ≤ 1048576) (h : T.In w R t v) :
    Calls Tryz.prog 29 #[v] w fun e w' => ∃ (u : Value) (L : List (List UInt8)), e = .returned u ∧ w'.ownsRow w.heap.size 9 1 u L.length (L.map encStr) ∧ FreeL t L ∧ Below w.heap.size w w' := by
  obtain ⟨i0, hi, hz0, hz1, hz2⟩ := info_parts info_str
  have hIn := h
  obtain ⟨A1, c1, A2, c2, A3, c3, rfl, _⟩ := h.form
  obtain ⟨nm, hnm⟩ : ∃ x, t.nm = x := ⟨_, rfl⟩
  obtain ⟨ng, hng⟩ : ∃ x, t.ng = x := ⟨_, rfl⟩
  obtain ⟨n1, hn1⟩ : ∃ x, t.ns.length = x := ⟨_, rfl⟩
  obtain ⟨n2, hn2⟩ : ∃ x, t.mg.length = x := ⟨_, rfl⟩
  obtain ⟨n3, hn3⟩ : ∃ x, t.ks.length = x := ⟨_, rfl⟩
  obtain ⟨kk, hkk⟩ : ∃ x, t.k = x := ⟨_, rfl⟩
  rw [hkk, hnm, hng, hn1, hn2, hn3] at hIn ⊢
  clear h hnm hng hn1 hn2 hn3 hkk
  unfold tv at hIn ⊢
  have hIn2 := in_lt t _ hIn
  obtain ⟨W, hW, ps, hbW⟩ := made_blk w #[.int .i64 kk, .string nm, .slice A1 n1 c1, .bool ng, .slice A2 n2 c2, .slice A3 n3 c3] 28
  obtain ⟨g, hg⟩ : ∃ g, g = w.heap.size := ⟨_, rfl⟩
  obtain ⟨fm, hfm⟩ : ∃ x, x = W.heap.size := ⟨_, rfl⟩
  obtain ⟨V, hV⟩ : ∃ V : World, V = (W.alloc (.map #[] 0)).alloc (.map #[] 0) := ⟨_, rfl⟩
  have hbV : Below W.heap.size W V := hV ▸ below_alloc2 W _ _
  have HFM : Hid (FM V fm 0 (.map [])) := Lib.hid (by rw [hV, hfm]; exact (World.ownsMap_made W _ _ _).alloc _)
  have HBM : Hid (BM V (fm + 1) 0 (.map [])) := Lib.hid (by
   rw [hV, hfm]
   have := World.ownsMap_made (H := Unit) (W.alloc (.map #[] 0)) Tryz.prog 9 (plainElem Tryz.prog 3)
   simpa using this)
  have HIV := Lib.hid ((hIn2.below hbW).below hbV)
  have HBV := Lib.hid (below_on hbW hbV)
  have hwf : w.heap.size ≤ fm := by have := hbW.size; omega
  have hfV : fm ≤ V.heap.size := by have := hbV.size; omega
  rw [← hg] at ps
  have psV := ps.below hbV
  have hRB : ∀ g, (R g ∧ g < w.heap.size) → g < fm := fun g h => by have := h.2; omega
  have HCE := Lib.hid (free_all 1048576 t V _ _ fm (fm + 1) fm 0 0 _ _ (fun _ => 0) (fun _ => false) hN (Nat.le_refl _) HIV.out hRB (by omega) (Nat.le_refl _) (by omega) hfV HBM.out HFM.out (fun x => by simp [DataW.atKey]) (fun x => rfl) (fun x => ⟨Int.le_refl _, by omega⟩) (by omega) (by omega))
  have hmm := @run_makeMap Tryz.prog
  clear hIn hIn2 hbW hbV hRB
  go_enter Tryz.func29, Tryz.ntmps29
  go_upto_region 1 with (fail)
  rw [← hW, ← hg]
  clear hW hg
  go_upto_region 3 with (fail)
  rw [← hV, ← hfm]
  clear hV hfm hmm
  obtain ⟨x0, x1, x2, x3, x4, x5⟩ := psV.six
  go_upto_region 5 with (go_at_call 60; refine HCE.out.mono ?_; rintro e w4 ⟨rfl, D, E, -, hF4, -, hFd, hb4, -⟩)
  have hsE : Maps.size E ≤ t.bulk := by have := hF4.size_le; omega
  have HBW4 := Lib.hid (HBV.out.trans (hb4.mono hwf))
  have HFD : Hid (Fnd E (fun x => t.fv (fun _ => 0) x)) := Lib.hid (fun x => by rw [hFd x]; rfl)
  have hfl := hF4.lt
  obtain ⟨b0, hb0⟩ : ∃ x, x = w4.heap.size := ⟨_, rfl⟩
  have hwb : w.heap.size ≤ b0 := by have := HBW4.out.size; omega
  obtain ⟨m, hm⟩ : ∃ m, m = 0 + t.bulk := ⟨_, rfl⟩
  rw [← hm] at hF4
  clear hFd hb4 hm x0 x1 x2 x3 x4 x5 ps psV HCE HFM HBM HIV HBV
  go_wp2_with (at_range; refine wpList_range_own _ rfl _ 90 rfl 9 130 lawS Tryz.underlying90 unitElem fm m E rfl hF4 ?_; intro w0 hrg0 hg0 hs0)
  rw [← hb0] at hrg0 ⊢
  rw [← hb0] at hfl
  have hb04 : b0 ≤ w4.heap.size := by omega
  clear hs0 hb0
  go_frame
  go_loopw [5] (fun v wr => ∃ (left : Lit → Bool) (cnt : Nat) (ss : List (List UInt8)), wr.ranges Tryz.prog 9 unitElem fm b0 m E left cnt ∧ ss.length + cnt ≤ Maps.size E ∧
      wr.ownsRow b0 9 1 v ss.length (ss.map encStr) ∧ Hid (Collected E left ss) ∧ Hid (Below b0 w4 wr)) (fun _ wr => wr.rangeLeft fm b0)
  case atStart =>
   exact ⟨_, _, [], hrg0, by simp, World.ownsRow_nil _ _ _ _, Lib.hid (Collected.start E), Lib.hid ((Below.refl _ _).grown hg0 (by omega) (fun j hj => by cases hj))⟩
  case round =>
   obtain ⟨left, cnt, ss, hrg, hcs, hrow, hC, hbv⟩ := hrel
   have hnx := hbv.out
   have hb0r : b0 ≤ wr.heap.size := by have := hnx.size; omega
   clear hrg0 hg0
   go_wp2_with (at_next; refine wpList_next_ranges _ rfl _ rfl 9 lawS unitElem encStr (fun _ : Unit => Value.agg #[]) (fun key kl hk => by obtain ⟨x, hx, _⟩ := Maps.keyOf_str Tryz.underlying9 hk; exact ⟨x, hx⟩) (fun v y hv => by obtain ⟨rfl, _⟩ := unitElem_inv hv; exact ⟨(), rfl⟩) fm b0 m _ _ _ rfl hrg ?_ ?_)
   ·
    intro hc0 hl0
    have hfr := freeL_of hC.out hl0 HFD.out
    have HL := Lib.hid hfr
    have HNX := Lib.hid hnx
    clear hl0 hfr hC hbv hnx
    rcases hrow.2 with ⟨rfl, hnil⟩ | ⟨g2, cap, cur, rfl, hbase, hb, h1, h2, h3, h4⟩
    · have hss : ss = [] := List.length_eq_zero_iff.1 hnil
      subst hss
      go_wp2_with (go_at_call 61; refine (Tryz.slices_Sort_string_none none 0 _).mono ?_; rintro e w' ⟨rfl, rfl⟩)
      go_ret
      exact ⟨_, [], rfl, World.ownsRow_nil _ _ _ _, by simpa using HL.out, HBW4.out.trans (HNX.out.mono hwb)⟩
    ·
     have hH : Holds encStr wr g2 0 ss.toArray := holds_of_block hb (by simpa using h4)
     have hgl : g2 < wr.heap.size := (Array.getElem?_eq_some_iff.1 hb).1
     have HCS := Lib.hid (Tryz.slices_Sort_string g2 0 cap ss wr hH hgl (by omega))
     have HBB := Lib.hid hb
     have HH3 := Lib.hid h3
     have HH4 := Lib.hid h4
     have HRW := Lib.hid hrow
     have HRG := Lib.hid hrg
     clear hH hb h3 h4 hrow hrg
     go_wp2_with (go_at_call 61; refine HCS.out.mono ?_; rintro e w' ⟨rfl, nn, os, rfl⟩)
     go_ret
     refine ⟨_, ss.mergeSort leB, rfl, ?_, HL.out, HBW4.out.trans ((HNX.out.grown (grownBy_sorted _) (by omega) (fun j hj => by cases hj; exact hbase)).mono hwb)⟩
     have := ownsRow_sorted (n := nn) (os := os) (ts := ss.mergeSort leB) (by simp) (Nat.le_trans hwb hbase) HBB.out h1 h2 HH3.out
     rw [List.length_mergeSort]
     exact this
   ·
    intro x kl yd yp w2 cnt2 hkey hlk hv hat hrg2 hlt hg2 hs2 hen
    obtain ⟨x', ex, rfl, _⟩ := Maps.keyOf_str Tryz.underlying9 hkey
    obtain rfl : x = x' := encStr_inj ex
    have hrow2 := hrow.kept hg2 (Or.inr (row_ne_iter hrow hrg).symm)
    have hb2 : b0 ≤ w2.heap.size := by omega
    clear hs2
    have HC := Lib.hid (hC.out.step hlk hat)
    have HNX := Lib.hid hnx
    have hcl : ss.length + 1 ≤ 1048576 := by omega
    go_wp2_with (at_builtin; refine wpList_append_own _ rfl _ _ 22 rfl b0 9 i0 (.string ByteArray.empty) 1 16 Tryz.underlying22 hi hz0 hz1 hz2 rfl (by decide) _ _ _ rfl (hrow2.alloc _) ⟨w2.heap.size, 0, none⟩ 1 1 [encStr x] rfl rfl (cell_one_new _ _ _) (by simp [Value.oneCell', encStr]) (by unfold maxLen; omega) (by omega) (by simp; omega) ?_; intro v' w3 hown' hg3 hnil3; go_frame)
    have hrg3 := (hrg2.alloc _).kept hg3 (row_ne_low hrow2 hfl) (row_ne_iter hrow2 hrg2)
    go_roundw
    case rel =>
     refine ⟨_, cnt2, ss ++ [x], hrg3, by simp; omega, by simpa using hown', HC, Lib.hid ?_⟩
     exact ((HNX.out.grown hg2 hb0r (fun j hj => by cases hj; exact Nat.le_refl _)).alloc hb2 _).grown hg3 (by simp; omega) (fun j hj => (hrow2.lt j hj).1)
    case measure => rw [hrg3.left_eq, hrg.left_eq]; exact hlt
end
section
open Go.RowKit
open Go.Shelf
mutual
def T.sm : T → T → Bool
 | .node k nm ns ng mg ks, u => (k == u.k) && (decide (nm = u.nm) && (decide (ns = u.ns) && ((icmp (sgn ng (N.nv mg)) (sgn u.ng (N.nv u.mg)) == 0) && T.sms ks u.ks)))
def T.sms : List T → List T → Bool
 | [], l => l.isEmpty
 | t :: r, l => match l with
  | [] => false
  | u :: s => T.sm t u && T.sms r s
end
theorem T.sm_eq (t u : T) : t.sm u = ((t.k == u.k) && (decide (t.nm = u.nm) && (decide (t.ns = u.ns) && ((icmp (sgn t.ng (N.nv t.mg)) (sgn u.ng (N.nv u.mg)) == 0) && T.sms t.ks u.ks)))) := by cases t; rw [T.sm]; rfl
theorem T.sms_len : ∀ (l m : List T), T.sms l m = true → l.length = m.length
 | [], [], _ => rfl
 | [], _ :: _, h => by rw [T.sms] at h; cases h
 | _ :: _, [], h => by rw [T.sms] at h; cases h
 | t :: r, u :: s, h => by
  rw [T.sms, Bool.and_eq_true] at h
  rw [List.length_cons, List.length_cons, T.sms_len r s h.2]
theorem T.sms_get : ∀ (l m : List T) (i : Nat), T.sms l m = true → i < l.length → (l.getD i t0).sm (m.getD i t0) = true
 | [], _, _, _, hi => absurd hi (by simp)
 | t :: r, [], _, h, _ => by rw [T.sms] at h; cases h
 | t :: r, u :: s, 0, h, _ => by
  rw [T.sms, Bool.and_eq_true] at h
  exact h.1
 | t :: r, u :: s, i + 1, h, hi => by
  rw [T.sms, Bool.and_eq_true] at h
  exact T.sms_get r s i h.2 (by simpa using hi)
theorem T.sms_all : ∀ (l m : List T), l.length = m.length → (∀ i, i < l.length → (l.getD i t0).sm (m.getD i t0) = true) → T.sms l m = true
 | [], [], _, _ => by rw [T.sms]; rfl
 | [], _ :: _, h, _ => by simp at h
 | _ :: _, [], h, _ => by simp at h
 | t :: r, u :: s, h, hi => by
  rw [T.sms, Bool.and_eq_true]
  exact ⟨hi 0 (by simp), T.sms_all r s (by simpa using h) (fun i h2 => hi (i + 1) (by simpa using h2))⟩
mutual
theorem T.sm_self : ∀ (t : T), t.sm t = true
 | .node k nm ns ng mg ks => by
  have h := T.sms_self ks
  rw [T.sm]
  show ((k == k) && (decide (nm = nm) && (decide (ns = ns) && ((icmp (sgn ng (N.nv mg)) (sgn ng (N.nv mg)) == 0) && T.sms ks ks)))) = true
  rw [h, icmp_eq]
  simp
theorem T.sms_self : ∀ (l : List T), T.sms l l = true
 | [] => by rw [T.sms]; rfl
 | t :: r => by
  have h1 := T.sm_self t
  have h2 := T.sms_self r
  rw [T.sms, h1, h2]
  rfl
end
theorem equal_str (w : World) (R R' : Nat → Prop) (A A' : Option Addr) (c c' : Nat) (ns ns' : List ByteArray) (h : StrL w R A c ns) (h' : StrL w R' A' c' ns') (hb : ns.length ≤ 1048576) (hb' : ns'.length ≤ 1048576) :
    Calls Tryz.prog 51 #[.slice A ns.length c, .slice A' ns'.length c'] w fun e w' => e = .returned (.bool (decide (ns = ns'))) ∧ Below w.heap.size w w' := by
  by_cases hl : ns.length = ns'.length
  ·
   by_cases h0 : ns.length = 0
   · have e1 : ns = [] := List.length_eq_zero_iff.1 h0
     have e2 : ns' = [] := List.length_eq_zero_iff.1 (by omega)
     subst e1 e2
     refine (Tryz.slices_Equal_string_empty A A' c 0 c' w (by omega)).mono ?_
     rintro e w' ⟨rfl, rfl⟩
     exact ⟨rfl, Below.refl _ _⟩
   · obtain ⟨b, o, rfl, _, hc⟩ := h.2 (by omega)
     obtain ⟨b', o', rfl, _, hc'⟩ := h'.2 (by omega)
     refine (Tryz.slices_Equal_string b o ns.length c b' o' ns'.length c' ns ns' w (Nat.le_refl _) (Nat.le_refl _) (by omega) (by omega) hc hc').mono ?_
     rintro e w' ⟨rfl, q, rfl⟩
     rw [List.take_length, List.take_length]
     exact ⟨rfl, below_drewN (Below.refl _ _) q⟩
  · refine (Tryz.slices_Equal_string_lens A A' ns.length c ns'.length c' w hl).mono ?_
    rintro e w' ⟨rfl, rfl⟩
    have hne : ¬ ns = ns' := fun e => hl (by rw [e])
    exact ⟨by rw [decide_eq_false hne], Below.refl _ _⟩
theorem cmp_l (w : World) (R R' : Nat → Prop) (s s' : Bool) (A A' : Option Addr) (c c' : Nat) (l l' : List Nat) (h : SlR w R A c l) (h' : SlR w R' A' c' l') (hb : l.length ≤ 1048576) (hb' : l'.length ≤ 1048576) :
    Calls Tryz.prog 52 #[.agg #[.bool s, .slice A l.length c], .agg #[.bool s', .slice A' l'.length c']] w fun e w' => e = .returned (.int .i64 (icmp (sgn s (N.nv l)) (sgn s' (N.nv l')))) ∧ Below w.heap.size w w' :=
  cmp_i (K := 1048576) (L := 1048576) ⟨s, N.nv l, ⟨_, rfl, A, _, c, l, rfl, trivial, h.1, rfl, hb⟩, rfl⟩ ⟨s', N.nv l', ⟨_, rfl, A', _, c', l', rfl, trivial, h'.1, rfl, hb'⟩, rfl⟩ (by omega)
def SameW (N : Nat) : Prop := ∀ (t u : T) (w : World) (R R' : Nat → Prop) (v v' : Value), t.bulk ≤ N → u.bulk ≤ 1048576 → N ≤ 1048576 → T.In w R t v → T.In w R' u v' →
    Calls Tryz.prog 22 #[v, v'] w fun e w' => e = .returned (.bool (t.sm u)) ∧ Below w.heap.size w w'
set_option maxRecDepth 100000 in
set_option maxHeartbeats 3200000 in
theorem equalfunc_s (N : Nat) (hN2 : N ≤ 1048576) (ih : SameW N) (w : World) (R R' : Nat → Prop) (A A' : Option Addr) (c c' : Nat) (ks ls : List T) (hcap : ks.length ≤ c) (hcap' : ls.length ≤ c') (hl : ks.length ≤ 1048576) (hl' : ls.length ≤ 1048576)
    (hkid : 0 < ks.length → ∃ b o, A = some ⟨b, o, none⟩ ∧ ∀ i, i < ks.length → KidAt w R b (o + i * 6) (ks.getD i t0)) (hkid' : 0 < ls.length → ∃ b o, A' = some ⟨b, o, none⟩ ∧ ∀ i, i < ls.length → KidAt w R' b (o + i * 6) (ls.getD i t0))
    (hb : ∀ i, i < ks.length → (ks.getD i t0).bulk ≤ N) (hb' : ∀ i, i < ls.length → (ls.getD i t0).bulk ≤ 1048576) :
    Calls Tryz.prog 53 #[.slice A ks.length c, .slice A' ls.length c', .func (.func 22) #[] #[]] w fun e w' => e = .returned (.bool (T.sms ks ls)) ∧ Below w.heap.size w w' := by
  obtain ⟨n, hn⟩ : ∃ n, ks.length = n := ⟨_, rfl⟩
  obtain ⟨m, hm⟩ : ∃ m, ls.length = m := ⟨_, rfl⟩
  have HALL := Lib.hid (T.sms_all ks ls)
  have HGET := Lib.hid (T.sms_get ks ls)
  have HLEN := Lib.hid (T.sms_len ks ls)
  rw [hn] at hcap hl hkid hb HALL HGET HLEN ⊢
  rw [hm] at hcap' hl' hkid' hb' HALL HLEN ⊢
  have HN := Lib.hid hn
  have HM := Lib.hid hm
  have HK := Lib.hid hkid
  have HK' := Lib.hid hkid'
  have HB := Lib.hid hb
  have HB' := Lib.hid hb'
  have IH := Lib.hid ih
  clear hn hm hkid hkid' hb hb' ih
  by_cases hnm : n = m
  ·
   subst hnm
   have HA2 := Lib.hid (HALL.out rfl)
   clear HLEN HALL
   have hne : ((n : Int) != (n : Int)) = false := by simp
   go_enter Tryz.func53, Tryz.ntmps53
   go_wp2_with fail
   go_loopg [17] (n + 1) (fun gk v17 wr => ∃ i : Nat, gk + i = n + 1 ∧ i ≤ n ∧ v17 = .int .i64 (i : Nat) ∧ Hid (∀ j, j < i → (ks.getD j t0).sm (ls.getD j t0) = true) ∧ Below w.heap.size w wr)
   case atStart => exact ⟨0, by omega, Nat.zero_le _, rfl, Lib.hid (fun j hj => by omega), Below.refl _ _⟩
   case round =>
    obtain ⟨i, hi, hin, rfl, HS, hbw⟩ := hrel
    by_cases hlt : i < n
    ·
     obtain ⟨b, o, rfl, hk⟩ := HK.out (by omega)
     obtain ⟨b', o', rfl, hk'⟩ := HK'.out (by omega)
     have hkd := hk i hlt
     have hkd' := hk' i hlt
     have hub := HB.out i hlt
     have hub' := HB'.out i hlt
     have hget := fun h => HGET.out i h hlt
     obtain ⟨t, ht⟩ : ∃ u, ks.getD i t0 = u := ⟨_, rfl⟩
     obtain ⟨u, hu⟩ : ∃ u, ls.getD i t0 = u := ⟨_, rfl⟩
     obtain ⟨r, hr⟩ : ∃ r, t.sm u = r := ⟨_, rfl⟩
     have HT := Lib.hid ht
     have HU := Lib.hid hu
     rw [ht] at hkd hub hget
     rw [hu] at hkd' hub' hget
     rw [hr] at hget
     have HG := Lib.hid hget
     have HR := Lib.hid hr
     obtain ⟨B1, d1, B2, d2, B3, d3, h6, hkin⟩ := hkd.below hbw
     obtain ⟨E1, g1, E2, g2, E3, g3, k6, hkin'⟩ := hkd'.below hbw
     obtain ⟨W1, hW1, p1, hb1⟩ := made_blk wr #[.int .i64 t.k, .string t.nm, .slice B1 t.ns.length d1, .bool t.ng, .slice B2 t.mg.length d2, .slice B3 t.ks.length d3] 28
     obtain ⟨a1, ha1⟩ : ∃ a, a = wr.heap.size := ⟨_, rfl⟩
     obtain ⟨W2, hW2, p2, hb2⟩ := made_blk W1 #[.int .i64 u.k, .string u.nm, .slice E1 u.ns.length g1, .bool u.ng, .slice E2 u.mg.length g2, .slice E3 u.ks.length g3] 28
     obtain ⟨a2, ha2⟩ : ∃ a, a = W1.heap.size := ⟨_, rfl⟩
     have HI := Lib.hid (hkin.below (below_on hb1 hb2))
     have HI' := Lib.hid (hkin'.below (below_on hb1 hb2))
     have k61 := k6.below hb1
     rw [← ha1] at p1
     rw [← ha2] at p2
     have p12 := p1.below hb2
     have hbw2 := below_on hbw (below_on hb1 hb2)
     have hi0 : (0 : Int) ≤ i := by omega
     have hi1 : (i : Int) < n := by omega
     clear hk hk' hkd hkd' hget hr ht hu hkin hkin' k6 hb1 hb2 p1
     obtain ⟨e0, e1, e2, e3, e4, e5⟩ := h6
     go_upto_region 6 with (fail)
     rw [← hW1, ← ha1]
     clear e0 e1 e2 e3 e4 e5 hW1 ha1
     obtain ⟨f0, f1, f2, f3, f4, f5⟩ := k61
     go_upto_region 7 with (fail)
     rw [← hW2, ← ha2]
     clear f0 f1 f2 f3 f4 f5 hW2 ha2
     obtain ⟨x0, x1, x2, x3, x4, x5⟩ := p12.six
     obtain ⟨y0, y1, y2, y3, y4, y5⟩ := p2.six
     cases r
     · go_wp2_with (go_at_call 22; refine (IH.out t u _ R R' _ _ hub hub' hN2 HI.out HI'.out).mono ?_; rw [HR.out]; rintro e w3 ⟨rfl, hb3⟩)
       go_ret
       exact ⟨by cases hq : T.sms ks ls with | false => rfl | true => exact absurd (HG.out hq) (by decide), below_on hbw2 hb3⟩
     · go_wp2_with (go_at_call 22; refine (IH.out t u _ R R' _ _ hub hub' hN2 HI.out HI'.out).mono ?_; rw [HR.out]; rintro e w3 ⟨rfl, hb3⟩)
       go_roundg (n - i)
       case measure => omega
       case rel =>
        refine ⟨i + 1, by omega, by omega, by go_num, Lib.hid (fun j hj => ?_), below_on hbw2 hb3⟩
        by_cases hji : j = i
        · subst hji
          rw [HT.out, HU.out, HR.out]
        · exact HS.out j (by omega)
    · have HF := Lib.hid (HA2.out (fun j hj => HS.out j (by omega)))
      clear HA2 HS HGET
      obtain rfl : i = n := by omega
      go_wp2_with fail
      go_ret
      exact ⟨by rw [HF.out]; rfl, hbw⟩
  · have hne : ((n : Int) != (m : Int)) = true := by simp; omega
    have HF : Hid (T.sms ks ls = false) := Lib.hid (by cases hq : T.sms ks ls with | false => rfl | true => exact absurd (HLEN.out hq) hnm)
    go_enter Tryz.func53, Tryz.ntmps53
    go_wp2_with fail
    go_ret
    exact ⟨by rw [HF.out]; rfl, Below.refl _ _⟩
end
section
open Go.RowKit
open Go.Shelf
set_option maxRecDepth 100000 in
set_option maxHeartbeats 3200000 in
theorem same_w : ∀ (M : Nat), SameW M
 | 0, t, _, _, _, _, _, _, hN, _, _, _, _ => by have := T.bulk_pos t; omega
 | M + 1, t, u, w, R, R', v, v', hN, hM, hN2, h, h' => by
  have ih := same_w M
  obtain ⟨A1, c1, A2, c2, A3, c3, rfl, hst, hsl, hc3, hkids⟩ := h.open
  obtain ⟨E1, g1, E2, g2, E3, g3, rfl, hst', hsl', hg3, hkids'⟩ := h'.open
  obtain ⟨_, hl2, _, hl4, hl5⟩ := T.len_le hN
  obtain ⟨_, hm2, _, hm4, hm5⟩ := T.len_le hM
  obtain ⟨q1, hq1⟩ : ∃ q, (t.k == u.k) = q := ⟨_, rfl⟩
  obtain ⟨q2, hq2⟩ : ∃ q, decide (t.nm = u.nm) = q := ⟨_, rfl⟩
  obtain ⟨q3, hq3⟩ : ∃ q, decide (t.ns = u.ns) = q := ⟨_, rfl⟩
  obtain ⟨z, hz⟩ : ∃ z, icmp (sgn t.ng (N.nv t.mg)) (sgn u.ng (N.nv u.mg)) = z := ⟨_, rfl⟩
  obtain ⟨q4, hq4⟩ : ∃ q, (z == 0) = q := ⟨_, rfl⟩
  obtain ⟨q5, hq5⟩ : ∃ q, T.sms t.ks u.ks = q := ⟨_, rfl⟩
  have HE : Hid (t.sm u = (q1 && (q2 && (q3 && (q4 && q5))))) := Lib.hid (by rw [T.sm_eq, hq1, hq2, hq3, hz, hq4, hq5])
  have hq2' : (t.nm.toList == u.nm.toList) = q2 := by rw [← hq2, beq_str]
  have hub : ∀ i, i < t.ks.length → (t.ks.getD i t0).bulk ≤ M := fun i hi => T.kid_bulk hN hi
  have hub' : ∀ i, i < u.ks.length → (u.ks.getD i t0).bulk ≤ 1048576 := fun i hi => T.kid_bulk (Nat.le_trans hM (by omega)) hi
  obtain ⟨W1, hW1, p1, hb1⟩ := made_blk w #[.int .i64 t.k, .string t.nm, .slice A1 t.ns.length c1, .bool t.ng, .slice A2 t.mg.length c2, .slice A3 t.ks.length c3] 28
  obtain ⟨a1, ha1⟩ : ∃ a, a = w.heap.size := ⟨_, rfl⟩
  obtain ⟨W, hW2, p2, hb2⟩ := made_blk W1 #[.int .i64 u.k, .string u.nm, .slice E1 u.ns.length g1, .bool u.ng, .slice E2 u.mg.length g2, .slice E3 u.ks.length g3] 28
  obtain ⟨a2, ha2⟩ : ∃ a, a = W1.heap.size := ⟨_, rfl⟩
  have hbW := below_on hb1 hb2
  rw [← ha1] at p1
  rw [← ha2] at p2
  have p12 := p1.below hb2
  have ha3 : a2 = w.heap.size + 1 := by rw [ha2, hW1]; simp
  rw [hW1] at hW2
  clear ha2 hW1
  have HS : Hid (∀ w', Below W.heap.size W w' → Calls Tryz.prog 51 #[.slice A1 t.ns.length c1, .slice E1 u.ns.length g1] w' fun e w'' => e = .returned (.bool q3) ∧ Below w'.heap.size w' w'') := Lib.hid (fun w' hb' => hq3 ▸ equal_str w' R R' A1 E1 c1 g1 t.ns u.ns (hst.keep (fun p _ _ hp => ((below_on hbW hb').cell (World.block_lt_of_cell? w p hp)).trans hp) (fun _ h => h)) (hst'.keep (fun p _ _ hp => ((below_on hbW hb').cell (World.block_lt_of_cell? w p hp)).trans hp) (fun _ h => h)) (by omega) (by omega))
  have HC : Hid (∀ w', Below W.heap.size W w' → Calls Tryz.prog 52 #[.agg #[.bool t.ng, .slice A2 t.mg.length c2], .agg #[.bool u.ng, .slice E2 u.mg.length g2]] w' fun e w'' => e = .returned (.int .i64 z) ∧ Below w'.heap.size w' w'') := Lib.hid (fun w' hb' => hz ▸ cmp_l w' R R' t.ng u.ng A2 E2 c2 g2 t.mg u.mg (hsl.keep (fun p _ _ hp => ((below_on hbW hb').cell (World.block_lt_of_cell? w p hp)).trans hp) (fun _ h => h)) (hsl'.keep (fun p _ _ hp => ((below_on hbW hb').cell (World.block_lt_of_cell? w p hp)).trans hp) (fun _ h => h)) (by omega) (by omega))
  have HF : Hid (∀ w', Below W.heap.size W w' → Calls Tryz.prog 53 #[.slice A3 t.ks.length c3, .slice E3 u.ks.length g3, .func (.func 22) #[] #[]] w' fun e w'' => e = .returned (.bool q5) ∧ Below w'.heap.size w' w'') := Lib.hid (fun w' hb' => hq5 ▸ equalfunc_s M (by omega) ih w' R R' A3 E3 c3 g3 t.ks u.ks hc3 hg3 (by omega) (by omega)
   (fun h0 => by obtain ⟨b, o, e, hk⟩ := hkids h0; exact ⟨b, o, e, fun i hi => (hk i hi).below (below_on hbW hb')⟩)
   (fun h0 => by obtain ⟨b, o, e, hk⟩ := hkids' h0; exact ⟨b, o, e, fun i hi => (hk i hi).below (below_on hbW hb')⟩) hub hub')
  have hS := Below.refl W.heap.size W
  clear hst hst' hsl hsl' hkids hkids' ih h h' hN hM hub hub' hq3 hz hq5 p1 hb1 hb2 hc3 hg3 hl2 hl4 hl5 hm2 hm4 hm5
  go_enter Tryz.func22, Tryz.ntmps22
  go_upto_region 1 with (fail)
  rw [← hW2, ← ha3, ← ha1]
  clear hW2 ha1 ha3
  obtain ⟨x0, x1, x2, x3, x4, x5⟩ := p12.six
  obtain ⟨y0, y1, y2, y3, y4, y5⟩ := p2.six
  cases q1
  · go_wp2_with fail
    go_ret
    exact ⟨by rw [HE.out]; rfl, hbW⟩
  cases q2
  · go_wp2_with fail
    go_ret
    exact ⟨by rw [HE.out]; rfl, hbW⟩
  cases q3
  · go_wp2_with (go_at_call 51; refine (HS.out _ hS).mono ?_; rintro e w2 ⟨rfl, hb2⟩; have hS2 := below_on hS hb2; clear x0 x1 x2 x3 x4 x5 y0 y1 y2 y3 y4 y5 hb2; obtain ⟨x0, x1, x2, x3, x4, x5⟩ := (p12.below hS2).six; obtain ⟨y0, y1, y2, y3, y4, y5⟩ := (p2.below hS2).six)
    go_ret
    exact ⟨by rw [HE.out]; rfl, below_on hbW hS2⟩
  cases q4
  · go_wp2_with (first | (go_at_call 51; refine (HS.out _ hS).mono ?_; rintro e w2 ⟨rfl, hb2⟩; have hS2 := below_on hS hb2; clear x0 x1 x2 x3 x4 x5 y0 y1 y2 y3 y4 y5 hb2; obtain ⟨x0, x1, x2, x3, x4, x5⟩ := (p12.below hS2).six; obtain ⟨y0, y1, y2, y3, y4, y5⟩ := (p2.below hS2).six) | (go_at_call 52; refine (HC.out _ hS2).mono ?_; rintro e w3 ⟨rfl, hb3⟩; have hS3 := below_on hS2 hb3; clear x0 x1 x2 x3 x4 x5 y0 y1 y2 y3 y4 y5 hb3; obtain ⟨x0, x1, x2, x3, x4, x5⟩ := (p12.below hS3).six; obtain ⟨y0, y1, y2, y3, y4, y5⟩ := (p2.below hS3).six))
    go_ret
    exact ⟨by rw [HE.out]; rfl, below_on hbW hS3⟩
  · go_wp2_with (first | (go_at_call 51; refine (HS.out _ hS).mono ?_; rintro e w2 ⟨rfl, hb2⟩; have hS2 := below_on hS hb2; clear x0 x1 x2 x3 x4 x5 y0 y1 y2 y3 y4 y5 hb2; obtain ⟨x0, x1, x2, x3, x4, x5⟩ := (p12.below hS2).six; obtain ⟨y0, y1, y2, y3, y4, y5⟩ := (p2.below hS2).six) | (go_at_call 52; refine (HC.out _ hS2).mono ?_; rintro e w3 ⟨rfl, hb3⟩; have hS3 := below_on hS2 hb3; clear x0 x1 x2 x3 x4 x5 y0 y1 y2 y3 y4 y5 hb3; obtain ⟨x0, x1, x2, x3, x4, x5⟩ := (p12.below hS3).six; obtain ⟨y0, y1, y2, y3, y4, y5⟩ := (p2.below hS3).six) | (go_at_call 53; refine (HF.out _ hS3).mono ?_; rintro e w4 ⟨rfl, hb4⟩; have hS4 := below_on hS3 hb4))
    go_ret
    exact ⟨by rw [HE.out]; rfl, below_on hbW hS4⟩
end
end Go.Proofs.YthiadenmljbdaaaGreatDoor

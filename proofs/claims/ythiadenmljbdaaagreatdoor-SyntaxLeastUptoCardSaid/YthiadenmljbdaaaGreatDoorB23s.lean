/-
  s: the parts WBodyR WBodyQ of the proof.
-/
import Derived.Test.YthiadenmljbdaaaGreatDoorB22s
import Derived.Test.YthiadenmljbdaaaGreatDoorB21s
section
namespace Go.Proofs.YthiadenmljbdaaaGreatDoor
open Go.RowKit
open Go.Shelf
attribute [local go_sem] Oper.semAt_some
set_option maxHeartbeats 3200000 in
set_option maxRecDepth 100000 in
theorem body_17 (t : T) (hk : t.k = 17) (l : List T) (hl : t.ks = l) (hf : ∀ k ∈ l, FormW k) (h0 : 0 < l.length) (hbk : l.length ≤ 1048576) (hb : ∀ last, bodyB last t = restB ⟨#[97, 110, 100]⟩ 5 5 last l 0) : BodyW t := by
  intro B b bs least last w R v hle hnp h hR hIs hlen hBw
  rw [hb last] at hlen ⊢
  obtain ⟨TOT, hT⟩ : ∃ x, restB ⟨#[97, 110, 100]⟩ 5 5 last l 0 = x := ⟨_, rfl⟩
  rw [hT] at hlen ⊢
  have HF := Lib.hid hf
  have HL := Lib.hid hl
  have HT := Lib.hid hT
  clear hf hl hT hb
  have d1 : decide ((4 : Int) < (least : Int)) = false := by simp; rw [hk] at hnp; have : ¬ (4 < least) := fun h => hnp (.inl h); omega
  clear hnp hle
  have hIn := h
  obtain ⟨A1, c1, A2, c2, A3, c3, rfl, _⟩ := h.form
  obtain ⟨nm, hnm⟩ : ∃ x, t.nm = x := ⟨_, rfl⟩
  obtain ⟨ng, hng⟩ : ∃ x, t.ng = x := ⟨_, rfl⟩
  obtain ⟨n1, hn1⟩ : ∃ x, t.ns.length = x := ⟨_, rfl⟩
  obtain ⟨n2, hn2⟩ : ∃ x, t.mg.length = x := ⟨_, rfl⟩
  obtain ⟨n3, hn3⟩ : ∃ x, t.ks.length = x := ⟨_, rfl⟩
  rw [hk, hnm, hng, hn1, hn2, hn3] at hIn ⊢
  clear h hnm hng hn1 hn2 hn3
  unfold tv at hIn ⊢
  go_enter Tryz.func43, Tryz.ntmps43
  go_upto_region 1 with (fail)
  obtain ⟨W, hW, ps, hbW⟩ := made_blk w #[.int .i64 17, .string nm, .slice A1 n1 c1, .bool ng, .slice A2 n2 c2, .slice A3 n3 c3] 28
  obtain ⟨g, hg⟩ : ∃ g, g = w.heap.size := ⟨_, rfl⟩
  have HB : Hid (Lib.IsBuilder TW TB B b bs W) := Lib.hid (hW ▸ isB_alloc hIs _)
  have HK : Hid (Lib.OthersKept TB (some b) w W) := Lib.hid (hW ▸ (Lib.OthersKept.refl TB (some b) w).alloc _)
  have hBW : B ≤ W.heap.size := Nat.le_trans hBw hbW.size
  have HBW := Lib.hid (hbW.mono hBw)
  have HI1 := Lib.hid (hIn.under hR (hbW.mono hBw))
  have HR := Lib.hid hR
  rw [← hW, ← hg]
  rw [← hg] at ps
  have hgb : g ≠ b := by have := below_IsB hIs; omega
  clear hW hbW hIs hBw hg hIn hR
  obtain ⟨x0, x1, x2, x3, x4, x5⟩ := ps.six
  go_upto_region 6 with (go_at_call 75; refine (level_17 nm A1 n1 c1 ng A2 n2 c2 A3 n3 c3 W).mono ?_; rintro e w1 ⟨rfl, hb1⟩; have pg1 : Blk w1 g 28 #[.int .i64 17, .string nm, .slice A1 n1 c1, .bool ng, .slice A2 n2 c2, .slice A3 n3 c3] := ok_below hb1 g _ ps (by simpa using hgb) (fun c fz e => by injection e with _ e _; exact absurd e (by decide)); have HB1 := Lib.hid (isB_below HB.out hb1); have HBW1 := Lib.hid (HBW.out.trans (hb1.mono hBW)); have HK1 := Lib.hid (HK.out.trans (ok_below hb1)); have hB1 : B ≤ w1.heap.size := Nat.le_trans hBW hb1.size; have HI2 := Lib.hid (HI1.out.under HR.out (hb1.mono hBW)); clear x0 x1 x2 x3 x4 x5 hb1; obtain ⟨x0, x1, x2, x3, x4, x5⟩ := pg1.six)
  go_wp2_with (go_at_call 77; refine (row_w t l HL.out HF.out h0 hbk ⟨#[97, 110, 100]⟩ ⟨#[32, 97, 110, 100, 32]⟩ rfl 5 5 (by decide) (by decide) last B b bs _ R _ HI2.out HR.out HB1.out TOT HT.out hlen hB1).mono ?_; rintro e w2 ⟨rfl, h2, hb2, hk2⟩)
  go_end0
  exact ⟨rfl, h2, HBW1.out.trans hb2, HK1.out.trans hk2⟩
set_option maxHeartbeats 3200000 in
set_option maxRecDepth 100000 in
theorem body_18 (t : T) (hk : t.k = 18) (l : List T) (hl : t.ks = l) (hf : ∀ k ∈ l, FormW k) (h0 : 0 < l.length) (hbk : l.length ≤ 1048576) (hb : ∀ last, bodyB last t = restB ⟨#[111, 114]⟩ 4 4 last l 0) : BodyW t := by
  intro B b bs least last w R v hle hnp h hR hIs hlen hBw
  rw [hb last] at hlen ⊢
  obtain ⟨TOT, hT⟩ : ∃ x, restB ⟨#[111, 114]⟩ 4 4 last l 0 = x := ⟨_, rfl⟩
  rw [hT] at hlen ⊢
  have HF := Lib.hid hf
  have HL := Lib.hid hl
  have HT := Lib.hid hT
  clear hf hl hT hb
  have d1 : decide ((3 : Int) < (least : Int)) = false := by simp; rw [hk] at hnp; have : ¬ (3 < least) := fun h => hnp (.inl h); omega
  clear hnp hle
  have hIn := h
  obtain ⟨A1, c1, A2, c2, A3, c3, rfl, _⟩ := h.form
  obtain ⟨nm, hnm⟩ : ∃ x, t.nm = x := ⟨_, rfl⟩
  obtain ⟨ng, hng⟩ : ∃ x, t.ng = x := ⟨_, rfl⟩
  obtain ⟨n1, hn1⟩ : ∃ x, t.ns.length = x := ⟨_, rfl⟩
  obtain ⟨n2, hn2⟩ : ∃ x, t.mg.length = x := ⟨_, rfl⟩
  obtain ⟨n3, hn3⟩ : ∃ x, t.ks.length = x := ⟨_, rfl⟩
  rw [hk, hnm, hng, hn1, hn2, hn3] at hIn ⊢
  clear h hnm hng hn1 hn2 hn3
  unfold tv at hIn ⊢
  go_enter Tryz.func43, Tryz.ntmps43
  go_upto_region 1 with (fail)
  obtain ⟨W, hW, ps, hbW⟩ := made_blk w #[.int .i64 18, .string nm, .slice A1 n1 c1, .bool ng, .slice A2 n2 c2, .slice A3 n3 c3] 28
  obtain ⟨g, hg⟩ : ∃ g, g = w.heap.size := ⟨_, rfl⟩
  have HB : Hid (Lib.IsBuilder TW TB B b bs W) := Lib.hid (hW ▸ isB_alloc hIs _)
  have HK : Hid (Lib.OthersKept TB (some b) w W) := Lib.hid (hW ▸ (Lib.OthersKept.refl TB (some b) w).alloc _)
  have hBW : B ≤ W.heap.size := Nat.le_trans hBw hbW.size
  have HBW := Lib.hid (hbW.mono hBw)
  have HI1 := Lib.hid (hIn.under hR (hbW.mono hBw))
  have HR := Lib.hid hR
  rw [← hW, ← hg]
  rw [← hg] at ps
  have hgb : g ≠ b := by have := below_IsB hIs; omega
  clear hW hbW hIs hBw hg hIn hR
  obtain ⟨x0, x1, x2, x3, x4, x5⟩ := ps.six
  go_upto_region 6 with (go_at_call 75; refine (level_18 nm A1 n1 c1 ng A2 n2 c2 A3 n3 c3 W).mono ?_; rintro e w1 ⟨rfl, hb1⟩; have pg1 : Blk w1 g 28 #[.int .i64 18, .string nm, .slice A1 n1 c1, .bool ng, .slice A2 n2 c2, .slice A3 n3 c3] := ok_below hb1 g _ ps (by simpa using hgb) (fun c fz e => by injection e with _ e _; exact absurd e (by decide)); have HB1 := Lib.hid (isB_below HB.out hb1); have HBW1 := Lib.hid (HBW.out.trans (hb1.mono hBW)); have HK1 := Lib.hid (HK.out.trans (ok_below hb1)); have hB1 : B ≤ w1.heap.size := Nat.le_trans hBW hb1.size; have HI2 := Lib.hid (HI1.out.under HR.out (hb1.mono hBW)); clear x0 x1 x2 x3 x4 x5 hb1; obtain ⟨x0, x1, x2, x3, x4, x5⟩ := pg1.six)
  go_wp2_with (go_at_call 77; refine (row_w t l HL.out HF.out h0 hbk ⟨#[111, 114]⟩ ⟨#[32, 111, 114, 32]⟩ rfl 4 4 (by decide) (by decide) last B b bs _ R _ HI2.out HR.out HB1.out TOT HT.out hlen hB1).mono ?_; rintro e w2 ⟨rfl, h2, hb2, hk2⟩)
  go_end0
  exact ⟨rfl, h2, HBW1.out.trans hb2, HK1.out.trans hk2⟩
set_option maxHeartbeats 3200000 in
set_option maxRecDepth 100000 in
theorem body_19 (t : T) (hk : t.k = 19) (l : List T) (hl : t.ks = l) (hf : ∀ k ∈ l, FormW k) (h0 : 0 < l.length) (hbk : l.length ≤ 1048576) (hb : ∀ last, bodyB last t = restB ⟨#[105, 109, 112, 108, 105, 101, 115]⟩ 3 2 last l 0) : BodyW t := by
  intro B b bs least last w R v hle hnp h hR hIs hlen hBw
  rw [hb last] at hlen ⊢
  obtain ⟨TOT, hT⟩ : ∃ x, restB ⟨#[105, 109, 112, 108, 105, 101, 115]⟩ 3 2 last l 0 = x := ⟨_, rfl⟩
  rw [hT] at hlen ⊢
  have HF := Lib.hid hf
  have HL := Lib.hid hl
  have HT := Lib.hid hT
  clear hf hl hT hb
  have d1 : decide ((2 : Int) < (least : Int)) = false := by simp; rw [hk] at hnp; have : ¬ (2 < least) := fun h => hnp (.inl h); omega
  clear hnp hle
  have hIn := h
  obtain ⟨A1, c1, A2, c2, A3, c3, rfl, _⟩ := h.form
  obtain ⟨nm, hnm⟩ : ∃ x, t.nm = x := ⟨_, rfl⟩
  obtain ⟨ng, hng⟩ : ∃ x, t.ng = x := ⟨_, rfl⟩
  obtain ⟨n1, hn1⟩ : ∃ x, t.ns.length = x := ⟨_, rfl⟩
  obtain ⟨n2, hn2⟩ : ∃ x, t.mg.length = x := ⟨_, rfl⟩
  obtain ⟨n3, hn3⟩ : ∃ x, t.ks.length = x := ⟨_, rfl⟩
  rw [hk, hnm, hng, hn1, hn2, hn3] at hIn ⊢
  clear h hnm hng hn1 hn2 hn3
  unfold tv at hIn ⊢
  go_enter Tryz.func43, Tryz.ntmps43
  go_upto_region 1 with (fail)
  obtain ⟨W, hW, ps, hbW⟩ := made_blk w #[.int .i64 19, .string nm, .slice A1 n1 c1, .bool ng, .slice A2 n2 c2, .slice A3 n3 c3] 28
  obtain ⟨g, hg⟩ : ∃ g, g = w.heap.size := ⟨_, rfl⟩
  have HB : Hid (Lib.IsBuilder TW TB B b bs W) := Lib.hid (hW ▸ isB_alloc hIs _)
  have HK : Hid (Lib.OthersKept TB (some b) w W) := Lib.hid (hW ▸ (Lib.OthersKept.refl TB (some b) w).alloc _)
  have hBW : B ≤ W.heap.size := Nat.le_trans hBw hbW.size
  have HBW := Lib.hid (hbW.mono hBw)
  have HI1 := Lib.hid (hIn.under hR (hbW.mono hBw))
  have HR := Lib.hid hR
  rw [← hW, ← hg]
  rw [← hg] at ps
  have hgb : g ≠ b := by have := below_IsB hIs; omega
  clear hW hbW hIs hBw hg hIn hR
  obtain ⟨x0, x1, x2, x3, x4, x5⟩ := ps.six
  go_upto_region 6 with (go_at_call 75; refine (level_19 nm A1 n1 c1 ng A2 n2 c2 A3 n3 c3 W).mono ?_; rintro e w1 ⟨rfl, hb1⟩; have pg1 : Blk w1 g 28 #[.int .i64 19, .string nm, .slice A1 n1 c1, .bool ng, .slice A2 n2 c2, .slice A3 n3 c3] := ok_below hb1 g _ ps (by simpa using hgb) (fun c fz e => by injection e with _ e _; exact absurd e (by decide)); have HB1 := Lib.hid (isB_below HB.out hb1); have HBW1 := Lib.hid (HBW.out.trans (hb1.mono hBW)); have HK1 := Lib.hid (HK.out.trans (ok_below hb1)); have hB1 : B ≤ w1.heap.size := Nat.le_trans hBW hb1.size; have HI2 := Lib.hid (HI1.out.under HR.out (hb1.mono hBW)); clear x0 x1 x2 x3 x4 x5 hb1; obtain ⟨x0, x1, x2, x3, x4, x5⟩ := pg1.six)
  go_wp2_with (go_at_call 77; refine (row_w t l HL.out HF.out h0 hbk ⟨#[105, 109, 112, 108, 105, 101, 115]⟩ ⟨#[32, 105, 109, 112, 108, 105, 101, 115, 32]⟩ rfl 3 2 (by decide) (by decide) last B b bs _ R _ HI2.out HR.out HB1.out TOT HT.out hlen hB1).mono ?_; rintro e w2 ⟨rfl, h2, hb2, hk2⟩)
  go_end0
  exact ⟨rfl, h2, HBW1.out.trans hb2, HK1.out.trans hk2⟩
set_option maxHeartbeats 3200000 in
set_option maxRecDepth 100000 in
theorem body_20 (t : T) (hk : t.k = 20) (l : List T) (hl : t.ks = l) (hf : ∀ k ∈ l, FormW k) (h0 : 0 < l.length) (hbk : l.length ≤ 1048576) (hb : ∀ last, bodyB last t = restB ⟨#[105, 102, 102]⟩ 1 2 last l 0) : BodyW t := by
  intro B b bs least last w R v hle hnp h hR hIs hlen hBw
  rw [hb last] at hlen ⊢
  obtain ⟨TOT, hT⟩ : ∃ x, restB ⟨#[105, 102, 102]⟩ 1 2 last l 0 = x := ⟨_, rfl⟩
  rw [hT] at hlen ⊢
  have HF := Lib.hid hf
  have HL := Lib.hid hl
  have HT := Lib.hid hT
  clear hf hl hT hb
  have d1 : decide ((1 : Int) < (least : Int)) = false := by simp; rw [hk] at hnp; have : ¬ (1 < least) := fun h => hnp (.inl h); omega
  clear hnp hle
  have hIn := h
  obtain ⟨A1, c1, A2, c2, A3, c3, rfl, _⟩ := h.form
  obtain ⟨nm, hnm⟩ : ∃ x, t.nm = x := ⟨_, rfl⟩
  obtain ⟨ng, hng⟩ : ∃ x, t.ng = x := ⟨_, rfl⟩
  obtain ⟨n1, hn1⟩ : ∃ x, t.ns.length = x := ⟨_, rfl⟩
  obtain ⟨n2, hn2⟩ : ∃ x, t.mg.length = x := ⟨_, rfl⟩
  obtain ⟨n3, hn3⟩ : ∃ x, t.ks.length = x := ⟨_, rfl⟩
  rw [hk, hnm, hng, hn1, hn2, hn3] at hIn ⊢
  clear h hnm hng hn1 hn2 hn3
  unfold tv at hIn ⊢
  go_enter Tryz.func43, Tryz.ntmps43
  go_upto_region 1 with (fail)
  obtain ⟨W, hW, ps, hbW⟩ := made_blk w #[.int .i64 20, .string nm, .slice A1 n1 c1, .bool ng, .slice A2 n2 c2, .slice A3 n3 c3] 28
  obtain ⟨g, hg⟩ : ∃ g, g = w.heap.size := ⟨_, rfl⟩
  have HB : Hid (Lib.IsBuilder TW TB B b bs W) := Lib.hid (hW ▸ isB_alloc hIs _)
  have HK : Hid (Lib.OthersKept TB (some b) w W) := Lib.hid (hW ▸ (Lib.OthersKept.refl TB (some b) w).alloc _)
  have hBW : B ≤ W.heap.size := Nat.le_trans hBw hbW.size
  have HBW := Lib.hid (hbW.mono hBw)
  have HI1 := Lib.hid (hIn.under hR (hbW.mono hBw))
  have HR := Lib.hid hR
  rw [← hW, ← hg]
  rw [← hg] at ps
  have hgb : g ≠ b := by have := below_IsB hIs; omega
  clear hW hbW hIs hBw hg hIn hR
  obtain ⟨x0, x1, x2, x3, x4, x5⟩ := ps.six
  go_upto_region 6 with (go_at_call 75; refine (level_20 nm A1 n1 c1 ng A2 n2 c2 A3 n3 c3 W).mono ?_; rintro e w1 ⟨rfl, hb1⟩; have pg1 : Blk w1 g 28 #[.int .i64 20, .string nm, .slice A1 n1 c1, .bool ng, .slice A2 n2 c2, .slice A3 n3 c3] := ok_below hb1 g _ ps (by simpa using hgb) (fun c fz e => by injection e with _ e _; exact absurd e (by decide)); have HB1 := Lib.hid (isB_below HB.out hb1); have HBW1 := Lib.hid (HBW.out.trans (hb1.mono hBW)); have HK1 := Lib.hid (HK.out.trans (ok_below hb1)); have hB1 : B ≤ w1.heap.size := Nat.le_trans hBW hb1.size; have HI2 := Lib.hid (HI1.out.under HR.out (hb1.mono hBW)); clear x0 x1 x2 x3 x4 x5 hb1; obtain ⟨x0, x1, x2, x3, x4, x5⟩ := pg1.six)
  go_wp2_with (go_at_call 77; refine (row_w t l HL.out HF.out h0 hbk ⟨#[105, 102, 102]⟩ ⟨#[32, 105, 102, 102, 32]⟩ rfl 1 2 (by decide) (by decide) last B b bs _ R _ HI2.out HR.out HB1.out TOT HT.out hlen hB1).mono ?_; rintro e w2 ⟨rfl, h2, hb2, hk2⟩)
  go_end0
  exact ⟨rfl, h2, HBW1.out.trans hb2, HK1.out.trans hk2⟩
end Go.Proofs.YthiadenmljbdaaaGreatDoor
end
section
namespace Go.Proofs.YthiadenmljbdaaaGreatDoor
open Go.RowKit
open Go.Shelf
attribute [local go_sem] Oper.semAt_some
def joinB (ns : List ByteArray) : List UInt8 := Lib.join (ns.map (·.data.toList)) [32]
theorem bytes_names (s : ByteArray) (ns : List ByteArray) (l : List P.It) : P.bytes (P.namesIt (s :: ns) ++ l) = joinB (s :: ns) ++ (32 :: P.bytes l) := by
  induction ns generalizing s with
  | nil => simp [P.namesIt, P.bytes, P.itB, joinB, Lib.join]
  | cons a r ih =>
    have h1 : P.namesIt (s :: a :: r) ++ l = P.Nm s :: none :: (P.namesIt (a :: r) ++ l) := rfl
    rw [h1, P.bytes_cons, P.bytes_cons, ih]
    simp [joinB, Lib.join, P.itB]
theorem join_w (w : World) (R : Nat → Prop) (A : Option Addr) (c : Nat) (ns : List ByteArray) (h : StrL w R A c ns) (h0 : 0 < ns.length) (hn : ns.length ≤ 1048576) (hlen : (joinB ns).length ≤ 140737488355328) :
    Calls Tryz.prog 79 #[.slice A ns.length c, .string ⟨#[32]⟩] w fun e w' => e = .returned (.string ⟨(joinB ns).toArray⟩) ∧ Below w.heap.size w w' := by
  obtain ⟨hcap, hc⟩ := h
  obtain ⟨b, o, rfl, _, hcs⟩ := hc h0
  refine Tryz.strings_Join b o c ns ⟨#[32]⟩ w (fun j x hx => ?_) (World.block_lt_of_cell? w _ (hcs 0 h0)) (by omega) hcap hlen
  have hj : j < ns.length := (List.getElem?_eq_some_iff.1 hx).1
  have := hcs j hj
  rw [List.getD_eq_getElem?_getD, hx] at this
  exact this
theorem StrL.under {w w' : World} {R : Nat → Prop} {A : Option Addr} {c : Nat} {l : List ByteArray} {B : Nat} (h : StrL w R A c l) (hR : ∀ g, R g → g < B) (hb : Below B w w') : StrL w' R A c l :=
  h.keep (fun _ _ hp hc => (hb.cell (hR _ hp)).trans hc) (fun _ h => h)
set_option maxHeartbeats 3200000 in
set_option maxRecDepth 100000 in
theorem body_21 (s : ByteArray) (ns : List ByteArray) (u : T) (hnl : (s :: ns).length ≤ 1048576) (ih : FormW u) : BodyW (.node 21 ⟨#[]⟩ (s :: ns) false [] [u]) := by
  intro B b bs least last w R v hle hnp h hR hIs hlen hBw
  obtain rfl : last = true := by
    cases last
    · exact absurd (.inr ⟨rfl, rfl⟩) hnp
    · rfl
  have e : bodyB true (.node 21 ⟨#[]⟩ (s :: ns) false [] [u]) = [115, 111, 109, 101, 32] ++ (joinB (s :: ns) ++ [32, 46, 32]) ++ formB 1 true u := by
    unfold bodyB
    rw [P.body_some, P.bytes_cons, P.bytes_cons, bytes_names, P.bytes_cons, P.bytes_cons, List.append_assoc, List.append_assoc]
    rfl
  rw [e] at hlen ⊢
  clear e
  simp only [List.length_append, List.length_cons, List.length_nil] at hlen
  obtain ⟨S, hS⟩ : ∃ S : ByteArray, S = ⟨(joinB (s :: ns)).toArray⟩ := ⟨_, rfl⟩
  have hsz : S.size = (joinB (s :: ns)).length := by rw [hS]; simp [ByteArray.size]
  have HSC : Hid (Lib.strCells (⟨#[115, 111, 109, 101, 32]⟩ ++ S ++ ⟨#[32, 46, 32]⟩) = Lib.byteCells ([115, 111, 109, 101, 32] ++ (joinB (s :: ns) ++ [32, 46, 32]))) := Lib.hid (by rw [hS]; simp [Lib.strCells, Lib.byteCells])
  have hz5 : (⟨#[115, 111, 109, 101, 32]⟩ : ByteArray).size = 5 := rfl
  have hz3 : (⟨#[32, 46, 32]⟩ : ByteArray).size = 3 := rfl
  have hsa : (⟨#[115, 111, 109, 101, 32]⟩ ++ S : ByteArray).size = 5 + S.size := by rw [ByteArray.size_append, hz5]
  have hsb : (⟨#[115, 111, 109, 101, 32]⟩ ++ S ++ ⟨#[32, 46, 32]⟩ : ByteArray).size = 5 + S.size + 3 := by rw [ByteArray.size_append, hsa, hz3]
  have hlS : bs.length + (⟨#[115, 111, 109, 101, 32]⟩ ++ S ++ ⟨#[32, 46, 32]⟩ : ByteArray).size ≤ 140737488355328 := by omega
  have hl1 : (bs ++ Lib.strCells (⟨#[115, 111, 109, 101, 32]⟩ ++ S ++ ⟨#[32, 46, 32]⟩)).length + (formB 1 true u).length ≤ 140737488355328 := by rw [List.length_append, Lib.strCells_length]; omega
  have hc2 : ¬ (9223372036854775807 < 5 + S.size) := by omega
  have hc4 : ¬ (9223372036854775807 < 5 + S.size + 3) := by omega
  have hjl : (joinB (s :: ns)).length ≤ 140737488355328 := by omega
  have HNT := Lib.hid (fun (w : World) (A : Option Addr) (c : Nat) (h : StrL w R A c (s :: ns)) => hS ▸ join_w w R A c (s :: ns) h (by simp) hnl hjl)
  have HIH := Lib.hid ih
  have HL1 := Lib.hid hl1
  have d1 : decide ((5 : Int) < (least : Int)) = false := by simp; omega
  clear hle hnp ih hsz hz5 hz3 hsa hsb hlen hS hl1 hjl
  rw [Lib.byteCells_append, ← List.append_assoc, ← HSC.out]
  rw [T.In] at h
  obtain ⟨A1, c1, A2, c2, A3, c3, rfl, hst, -, hc3, hk⟩ := h
  obtain ⟨kb, ko, rfl, hRk, hI⟩ := hk (by simp)
  rw [T.Ins] at hI
  obtain ⟨⟨v0, v1, v2, v3, v4, v5, h6, hIn⟩, -⟩ := hI
  have hkB := hR kb hRk
  have H6 := Lib.hid h6
  have HST := Lib.hid hst
  have hHR := Lib.hid hR
  clear hk h6 hst
  obtain ⟨nn, hnn⟩ : ∃ x, (s :: ns).length = x := ⟨_, rfl⟩
  unfold tv
  rw [hnn]
  have HNN := Lib.hid hnn
  clear hnn
  simp only [List.length_nil, List.length_cons, Nat.zero_add]
  go_enter Tryz.func43, Tryz.ntmps43
  go_upto_region 1 with (fail)
  obtain ⟨W, hW, ps, hbW⟩ := made_blk w #[.int .i64 21, .string ⟨#[]⟩, .slice A1 nn c1, .bool false, .slice A2 0 c2, .slice (some ⟨kb, ko, none⟩) 1 c3] 28
  obtain ⟨g, hg⟩ : ∃ g, g = w.heap.size := ⟨_, rfl⟩
  have HB : Hid (Lib.IsBuilder TW TB B b bs W) := Lib.hid (hW ▸ isB_alloc hIs _)
  have HK : Hid (Lib.OthersKept TB (some b) w W) := Lib.hid (hW ▸ (Lib.OthersKept.refl TB (some b) w).alloc _)
  have hBW : B ≤ W.heap.size := Nat.le_trans hBw hbW.size
  have HBW := Lib.hid (hbW.mono hBw)
  have HI1 := Lib.hid (hIn.under hR (hbW.mono hBw))
  have HR := Lib.hid hR
  rw [← hW, ← hg]
  rw [← hg] at ps
  have hgb : g ≠ b := by have := below_IsB hIs; omega
  clear hW hbW hIs hBw hg hIn hR
  obtain ⟨x0, x1, x2, x3, x4, x5⟩ := ps.six
  go_upto_region 20 with (go_at_call 75; refine (level_21 ⟨#[]⟩ A1 nn c1 false A2 0 c2 (some ⟨kb, ko, none⟩) 1 c3 W).mono ?_; rintro e w1 ⟨rfl, hb1⟩; have pg1 : Blk w1 g 28 #[.int .i64 21, .string ⟨#[]⟩, .slice A1 nn c1, .bool false, .slice A2 0 c2, .slice (some ⟨kb, ko, none⟩) 1 c3] := ok_below hb1 g _ ps (by simpa using hgb) (fun c fz e => by injection e with _ e _; exact absurd e (by decide)); have HB1 := Lib.hid (isB_below HB.out hb1); have HBW1 := Lib.hid (HBW.out.trans (hb1.mono hBW)); have HK1 := Lib.hid (HK.out.trans (ok_below hb1)); have hB1 : B ≤ w1.heap.size := Nat.le_trans hBW hb1.size; have HI2 := Lib.hid (HI1.out.under HR.out (hb1.mono hBW)); clear x0 x1 x2 x3 x4 x5 hb1; obtain ⟨x0, x1, x2, x3, x4, x5⟩ := pg1.six)
  have HST1 := Lib.hid (HST.out.under HR.out HBW1.out)
  refine wp_region_held_drew (S := fun w' => w'.cell? ⟨g, 2, none⟩ = some (.slice A1 nn c1)) (by kernel_rfl) (by exact x2) (fun hHeld => ?_)
  refine take_at 0 (by kernel_rfl) (by kernel_rfl) (by kernel_rfl) (fun _ _ d _ _ h => by cases d <;> exact h) ⟨_, rfl⟩ (by assumption) (fun o ho => ?_)
  simp only [List.getElem?_toArray, List.getElem?_cons_zero, Option.some.injEq] at ho
  subst ho
  refine ⟨?_, ⟨by rfl, ?_⟩, ?_⟩
  rotate_left
  · intro w hSw
    (try dsimp only at hSw)
    (go_simp; try with_reducible rfl)
  (try simp only [Act.put, List.setIfInBounds_toArray, List.set_cons_zero, List.set_cons_succ])
  refine take_at 1 (by kernel_rfl) (by kernel_rfl) (by kernel_rfl) (fun _ _ d _ _ h => by cases d <;> exact h) ⟨_, rfl⟩ (by assumption) (fun o ho => ?_)
  simp only [List.getElem?_toArray, List.getElem?_cons_succ, List.getElem?_cons_zero, Option.some.injEq] at ho
  subst ho
  refine ⟨?_, ⟨by rfl, ?_⟩, ?_⟩
  rotate_left
  · intro w hSw
    (try dsimp only at hSw)
    (go_simp; try with_reducible rfl)
  (try simp only [Act.put, List.setIfInBounds_toArray, List.set_cons_zero, List.set_cons_succ])
  refine take_at 2 (by kernel_rfl) (by kernel_rfl) (by kernel_rfl) (fun _ _ d _ _ h => by cases d <;> exact h) ⟨_, rfl⟩ (by assumption) (fun o ho => ?_)
  simp only [List.getElem?_toArray, List.getElem?_cons_succ, List.getElem?_cons_zero, Option.some.injEq] at ho
  subst ho
  refine ⟨?_, ⟨by rfl, ?_⟩, ?_⟩
  rotate_left
  · intro w hSw
    (try dsimp only at hSw)
    (go_simp; try with_reducible rfl)
  (try simp only [Act.put, List.setIfInBounds_toArray, List.set_cons_zero, List.set_cons_succ])
  refine take_at 3 (by kernel_rfl) (by kernel_rfl) (by kernel_rfl) (fun _ _ d _ _ h => by cases d <;> exact h) ⟨_, rfl⟩ (by assumption) (fun o ho => ?_)
  simp only [List.getElem?_toArray, List.getElem?_cons_succ, List.getElem?_cons_zero, Option.some.injEq] at ho
  subst ho
  refine ⟨?_, ⟨by rfl, ?_⟩, ?_⟩
  rotate_left
  · intro w hSw
    (try dsimp only at hSw)
    (go_simp; try with_reducible rfl)
  (try simp only [Act.put, List.setIfInBounds_toArray, List.set_cons_zero, List.set_cons_succ])
  refine take_at 4 (by kernel_rfl) (by kernel_rfl) (by kernel_rfl) (fun _ _ d _ _ h => by cases d <;> exact h) ⟨_, rfl⟩ (by assumption) (fun o ho => ?_)
  simp only [List.getElem?_toArray, List.getElem?_cons_succ, List.getElem?_cons_zero, Option.some.injEq] at ho
  subst ho
  refine ⟨?_, ⟨by rfl, ?_⟩, ?_⟩
  rotate_left
  · intro w hSw
    (try dsimp only at hSw)
    (go_simp; try with_reducible rfl)
  (try simp only [Act.put, List.setIfInBounds_toArray, List.set_cons_zero, List.set_cons_succ])
  refine wpAnyH_ready (rs := [5]) (by kernel_rfl) (by simp) ?_
  refine ready_at 5 ⟨_, rfl⟩ (fun o ho K hK => ?_) AllReadyH.nil
  simp only [List.getElem?_toArray, List.getElem?_cons_succ, List.getElem?_cons_zero, Option.some.injEq] at ho
  subst ho
  go_simp
  go_at_call 79
  rw [← HNN.out]
  refine (HNT.out w1.drew A1 c1 (HST1.out.keep (fun _ _ _ h => h) (fun _ h => h))).mono ?_
  rw [HNN.out]
  rintro e w2 ⟨rfl, hb2⟩
  have hB2 : B ≤ w2.heap.size := Nat.le_trans hB1 hb2.size
  have HB2 := Lib.hid (isB_below (show Lib.IsBuilder TW TB B b bs w1.drew from HB1.out) hb2)
  have HBW2 := Lib.hid ((HBW1.out.drew).trans (hb2.mono hB1))
  have HK2 := Lib.hid ((HK1.out.drew).trans (ok_below hb2))
  have HI3 := Lib.hid (HI2.out.under HR.out ((Below.refl B w1).drew.trans (hb2.mono hB1)))
  have pg2 : Blk w2 g 28 #[.int .i64 21, .string ⟨#[]⟩, .slice A1 nn c1, .bool false, .slice A2 0 c2, .slice (some ⟨kb, ko, none⟩) 1 c3] := ok_below hb2 g _ pg1 (by simpa using hgb) (fun c fz e => by injection e with _ e _; exact absurd e (by decide))
  clear hb2
  refine hK.out _ _ ?_ (fun hHeld2 => ?_)
  · obtain ⟨_, _, y2, _, _, _⟩ := pg2.six
    exact y2
  replace hHeld := hHeld2
  clear hK K hHeld2
  (try simp only [List.setIfInBounds_toArray, List.set_cons_zero, List.set_cons_succ])
  refine take_at 6 (by kernel_rfl) (by kernel_rfl) (by kernel_rfl) (fun _ _ d _ _ h => by cases d <;> exact h) ⟨_, rfl⟩ (by assumption) (fun o ho => ?_)
  simp only [List.getElem?_toArray, List.getElem?_cons_succ, List.getElem?_cons_zero, Option.some.injEq] at ho
  subst ho
  refine ⟨?_, ⟨by rfl, ?_⟩, ?_⟩
  rotate_left
  · intro w hSw
    (try dsimp only at hSw)
    (go_simp; try with_reducible rfl)
  (try simp only [Act.put, List.setIfInBounds_toArray, List.set_cons_zero, List.set_cons_succ])
  refine take_at 7 (by kernel_rfl) (by kernel_rfl) (by kernel_rfl) (fun _ _ d _ _ h => by cases d <;> exact h) ⟨_, rfl⟩ (by assumption) (fun o ho => ?_)
  simp only [List.getElem?_toArray, List.getElem?_cons_succ, List.getElem?_cons_zero, Option.some.injEq] at ho
  subst ho
  refine ⟨?_, ⟨by rfl, ?_⟩, ?_⟩
  rotate_left
  · intro w hSw
    (try dsimp only at hSw)
    (go_simp; try with_reducible rfl)
  (try simp only [Act.put, List.setIfInBounds_toArray, List.set_cons_zero, List.set_cons_succ])
  refine wpAnyH_ready (rs := [8]) (by kernel_rfl) (by simp) ?_
  refine ready_at 8 ⟨_, rfl⟩ (fun o ho K hK => ?_) AllReadyH.nil
  simp only [List.getElem?_toArray, List.getElem?_cons_succ, List.getElem?_cons_zero, Option.some.injEq] at ho
  subst ho
  go_simp
  go_at_call 78
  refine (wstr_w B b bs _ w2 HB2.out ?_ hB2).mono ?_
  · exact hlS
  rintro e w3 ⟨rfl, h3, hb3, hk3⟩
  have pg3 : Blk w3 g 28 #[.int .i64 21, .string ⟨#[]⟩, .slice A1 nn c1, .bool false, .slice A2 0 c2, .slice (some ⟨kb, ko, none⟩) 1 c3] := hk3 g _ pg2 (by simpa using hgb) (fun c fz e => by injection e with _ e _; exact absurd e (by decide))
  have HBW3 := Lib.hid ((HBW2.out).trans hb3)
  have HK3 := Lib.hid ((HK2.out).trans hk3)
  have HI4 := Lib.hid (HI3.out.under HR.out hb3)
  have hB3 : B ≤ w3.heap.size := Nat.le_trans hB2 hb3.size
  have H3 := Lib.hid h3
  clear h3 hb3 hk3
  refine hK.out _ _ ?_ (fun hHeld2 => ?_)
  · obtain ⟨_, _, y2, _, _, _⟩ := pg3.six
    exact y2
  replace hHeld := hHeld2
  clear hK K hHeld2
  (try simp only [List.setIfInBounds_toArray, List.set_cons_zero, List.set_cons_succ])
  refine wpAnyH_done (by kernel_rfl) ?_ _
  clear hHeld x0 x1 x2 x3 x4 x5
  obtain ⟨y0, y1, y2, y3, y4, y5⟩ := H6.out.keep (fun p v hp hc => (HBW3.out.cell (by rw [hp]; exact hkB)).trans hc)
  obtain ⟨x0, x1, x2, x3, x4, x5⟩ := pg3.six
  clear ps pg1 pg2 pg3
  go_wp2_with (go_at_call 43; refine (HIH.out B b _ 1 true _ R _ (by decide) HI4.out HR.out (.inr H3.out) HL1.out hB3).mono ?_; rintro e w4 ⟨rfl, h4, hb4, hk4⟩)
  go_end0
  exact ⟨rfl, h4, HBW3.out.trans hb4, HK3.out.trans hk4⟩
set_option maxHeartbeats 3200000 in
set_option maxRecDepth 100000 in
theorem body_22 (s : ByteArray) (ns : List ByteArray) (u : T) (hnl : (s :: ns).length ≤ 1048576) (ih : FormW u) : BodyW (.node 22 ⟨#[]⟩ (s :: ns) false [] [u]) := by
  intro B b bs least last w R v hle hnp h hR hIs hlen hBw
  obtain rfl : last = true := by
    cases last
    · exact absurd (.inr ⟨rfl, rfl⟩) hnp
    · rfl
  have e : bodyB true (.node 22 ⟨#[]⟩ (s :: ns) false [] [u]) = [97, 108, 108, 32] ++ (joinB (s :: ns) ++ [32, 46, 32]) ++ formB 1 true u := by
    unfold bodyB
    rw [P.body_all, P.bytes_cons, P.bytes_cons, bytes_names, P.bytes_cons, P.bytes_cons, List.append_assoc, List.append_assoc]
    rfl
  rw [e] at hlen ⊢
  clear e
  simp only [List.length_append, List.length_cons, List.length_nil] at hlen
  obtain ⟨S, hS⟩ : ∃ S : ByteArray, S = ⟨(joinB (s :: ns)).toArray⟩ := ⟨_, rfl⟩
  have hsz : S.size = (joinB (s :: ns)).length := by rw [hS]; simp [ByteArray.size]
  have HSC : Hid (Lib.strCells (⟨#[97, 108, 108, 32]⟩ ++ S ++ ⟨#[32, 46, 32]⟩) = Lib.byteCells ([97, 108, 108, 32] ++ (joinB (s :: ns) ++ [32, 46, 32]))) := Lib.hid (by rw [hS]; simp [Lib.strCells, Lib.byteCells])
  have hz5 : (⟨#[97, 108, 108, 32]⟩ : ByteArray).size = 4 := rfl
  have hz3 : (⟨#[32, 46, 32]⟩ : ByteArray).size = 3 := rfl
  have hsa : (⟨#[97, 108, 108, 32]⟩ ++ S : ByteArray).size = 4 + S.size := by rw [ByteArray.size_append, hz5]
  have hsb : (⟨#[97, 108, 108, 32]⟩ ++ S ++ ⟨#[32, 46, 32]⟩ : ByteArray).size = 4 + S.size + 3 := by rw [ByteArray.size_append, hsa, hz3]
  have hlS : bs.length + (⟨#[97, 108, 108, 32]⟩ ++ S ++ ⟨#[32, 46, 32]⟩ : ByteArray).size ≤ 140737488355328 := by omega
  have hl1 : (bs ++ Lib.strCells (⟨#[97, 108, 108, 32]⟩ ++ S ++ ⟨#[32, 46, 32]⟩)).length + (formB 1 true u).length ≤ 140737488355328 := by rw [List.length_append, Lib.strCells_length]; omega
  have hc2 : ¬ (9223372036854775807 < 4 + S.size) := by omega
  have hc4 : ¬ (9223372036854775807 < 4 + S.size + 3) := by omega
  have hjl : (joinB (s :: ns)).length ≤ 140737488355328 := by omega
  have HNT := Lib.hid (fun (w : World) (A : Option Addr) (c : Nat) (h : StrL w R A c (s :: ns)) => hS ▸ join_w w R A c (s :: ns) h (by simp) hnl hjl)
  have HIH := Lib.hid ih
  have HL1 := Lib.hid hl1
  have d1 : decide ((5 : Int) < (least : Int)) = false := by simp; omega
  clear hle hnp ih hsz hz5 hz3 hsa hsb hlen hS hl1 hjl
  rw [Lib.byteCells_append, ← List.append_assoc, ← HSC.out]
  rw [T.In] at h
  obtain ⟨A1, c1, A2, c2, A3, c3, rfl, hst, -, hc3, hk⟩ := h
  obtain ⟨kb, ko, rfl, hRk, hI⟩ := hk (by simp)
  rw [T.Ins] at hI
  obtain ⟨⟨v0, v1, v2, v3, v4, v5, h6, hIn⟩, -⟩ := hI
  have hkB := hR kb hRk
  have H6 := Lib.hid h6
  have HST := Lib.hid hst
  have hHR := Lib.hid hR
  clear hk h6 hst
  obtain ⟨nn, hnn⟩ : ∃ x, (s :: ns).length = x := ⟨_, rfl⟩
  unfold tv
  rw [hnn]
  have HNN := Lib.hid hnn
  clear hnn
  simp only [List.length_nil, List.length_cons, Nat.zero_add]
  go_enter Tryz.func43, Tryz.ntmps43
  go_upto_region 1 with (fail)
  obtain ⟨W, hW, ps, hbW⟩ := made_blk w #[.int .i64 22, .string ⟨#[]⟩, .slice A1 nn c1, .bool false, .slice A2 0 c2, .slice (some ⟨kb, ko, none⟩) 1 c3] 28
  obtain ⟨g, hg⟩ : ∃ g, g = w.heap.size := ⟨_, rfl⟩
  have HB : Hid (Lib.IsBuilder TW TB B b bs W) := Lib.hid (hW ▸ isB_alloc hIs _)
  have HK : Hid (Lib.OthersKept TB (some b) w W) := Lib.hid (hW ▸ (Lib.OthersKept.refl TB (some b) w).alloc _)
  have hBW : B ≤ W.heap.size := Nat.le_trans hBw hbW.size
  have HBW := Lib.hid (hbW.mono hBw)
  have HI1 := Lib.hid (hIn.under hR (hbW.mono hBw))
  have HR := Lib.hid hR
  rw [← hW, ← hg]
  rw [← hg] at ps
  have hgb : g ≠ b := by have := below_IsB hIs; omega
  clear hW hbW hIs hBw hg hIn hR
  obtain ⟨x0, x1, x2, x3, x4, x5⟩ := ps.six
  go_upto_region 23 with (go_at_call 75; refine (level_22 ⟨#[]⟩ A1 nn c1 false A2 0 c2 (some ⟨kb, ko, none⟩) 1 c3 W).mono ?_; rintro e w1 ⟨rfl, hb1⟩; have pg1 : Blk w1 g 28 #[.int .i64 22, .string ⟨#[]⟩, .slice A1 nn c1, .bool false, .slice A2 0 c2, .slice (some ⟨kb, ko, none⟩) 1 c3] := ok_below hb1 g _ ps (by simpa using hgb) (fun c fz e => by injection e with _ e _; exact absurd e (by decide)); have HB1 := Lib.hid (isB_below HB.out hb1); have HBW1 := Lib.hid (HBW.out.trans (hb1.mono hBW)); have HK1 := Lib.hid (HK.out.trans (ok_below hb1)); have hB1 : B ≤ w1.heap.size := Nat.le_trans hBW hb1.size; have HI2 := Lib.hid (HI1.out.under HR.out (hb1.mono hBW)); clear x0 x1 x2 x3 x4 x5 hb1; obtain ⟨x0, x1, x2, x3, x4, x5⟩ := pg1.six)
  have HST1 := Lib.hid (HST.out.under HR.out HBW1.out)
  refine wp_region_held_drew (S := fun w' => w'.cell? ⟨g, 2, none⟩ = some (.slice A1 nn c1)) (by kernel_rfl) (by exact x2) (fun hHeld => ?_)
  refine take_at 0 (by kernel_rfl) (by kernel_rfl) (by kernel_rfl) (fun _ _ d _ _ h => by cases d <;> exact h) ⟨_, rfl⟩ (by assumption) (fun o ho => ?_)
  simp only [List.getElem?_toArray, List.getElem?_cons_zero, Option.some.injEq] at ho
  subst ho
  refine ⟨?_, ⟨by rfl, ?_⟩, ?_⟩
  rotate_left
  · intro w hSw
    (try dsimp only at hSw)
    (go_simp; try with_reducible rfl)
  (try simp only [Act.put, List.setIfInBounds_toArray, List.set_cons_zero, List.set_cons_succ])
  refine take_at 1 (by kernel_rfl) (by kernel_rfl) (by kernel_rfl) (fun _ _ d _ _ h => by cases d <;> exact h) ⟨_, rfl⟩ (by assumption) (fun o ho => ?_)
  simp only [List.getElem?_toArray, List.getElem?_cons_succ, List.getElem?_cons_zero, Option.some.injEq] at ho
  subst ho
  refine ⟨?_, ⟨by rfl, ?_⟩, ?_⟩
  rotate_left
  · intro w hSw
    (try dsimp only at hSw)
    (go_simp; try with_reducible rfl)
  (try simp only [Act.put, List.setIfInBounds_toArray, List.set_cons_zero, List.set_cons_succ])
  refine take_at 2 (by kernel_rfl) (by kernel_rfl) (by kernel_rfl) (fun _ _ d _ _ h => by cases d <;> exact h) ⟨_, rfl⟩ (by assumption) (fun o ho => ?_)
  simp only [List.getElem?_toArray, List.getElem?_cons_succ, List.getElem?_cons_zero, Option.some.injEq] at ho
  subst ho
  refine ⟨?_, ⟨by rfl, ?_⟩, ?_⟩
  rotate_left
  · intro w hSw
    (try dsimp only at hSw)
    (go_simp; try with_reducible rfl)
  (try simp only [Act.put, List.setIfInBounds_toArray, List.set_cons_zero, List.set_cons_succ])
  refine take_at 3 (by kernel_rfl) (by kernel_rfl) (by kernel_rfl) (fun _ _ d _ _ h => by cases d <;> exact h) ⟨_, rfl⟩ (by assumption) (fun o ho => ?_)
  simp only [List.getElem?_toArray, List.getElem?_cons_succ, List.getElem?_cons_zero, Option.some.injEq] at ho
  subst ho
  refine ⟨?_, ⟨by rfl, ?_⟩, ?_⟩
  rotate_left
  · intro w hSw
    (try dsimp only at hSw)
    (go_simp; try with_reducible rfl)
  (try simp only [Act.put, List.setIfInBounds_toArray, List.set_cons_zero, List.set_cons_succ])
  refine take_at 4 (by kernel_rfl) (by kernel_rfl) (by kernel_rfl) (fun _ _ d _ _ h => by cases d <;> exact h) ⟨_, rfl⟩ (by assumption) (fun o ho => ?_)
  simp only [List.getElem?_toArray, List.getElem?_cons_succ, List.getElem?_cons_zero, Option.some.injEq] at ho
  subst ho
  refine ⟨?_, ⟨by rfl, ?_⟩, ?_⟩
  rotate_left
  · intro w hSw
    (try dsimp only at hSw)
    (go_simp; try with_reducible rfl)
  (try simp only [Act.put, List.setIfInBounds_toArray, List.set_cons_zero, List.set_cons_succ])
  refine wpAnyH_ready (rs := [5]) (by kernel_rfl) (by simp) ?_
  refine ready_at 5 ⟨_, rfl⟩ (fun o ho K hK => ?_) AllReadyH.nil
  simp only [List.getElem?_toArray, List.getElem?_cons_succ, List.getElem?_cons_zero, Option.some.injEq] at ho
  subst ho
  go_simp
  go_at_call 79
  rw [← HNN.out]
  refine (HNT.out w1.drew A1 c1 (HST1.out.keep (fun _ _ _ h => h) (fun _ h => h))).mono ?_
  rw [HNN.out]
  rintro e w2 ⟨rfl, hb2⟩
  have hB2 : B ≤ w2.heap.size := Nat.le_trans hB1 hb2.size
  have HB2 := Lib.hid (isB_below (show Lib.IsBuilder TW TB B b bs w1.drew from HB1.out) hb2)
  have HBW2 := Lib.hid ((HBW1.out.drew).trans (hb2.mono hB1))
  have HK2 := Lib.hid ((HK1.out.drew).trans (ok_below hb2))
  have HI3 := Lib.hid (HI2.out.under HR.out ((Below.refl B w1).drew.trans (hb2.mono hB1)))
  have pg2 : Blk w2 g 28 #[.int .i64 22, .string ⟨#[]⟩, .slice A1 nn c1, .bool false, .slice A2 0 c2, .slice (some ⟨kb, ko, none⟩) 1 c3] := ok_below hb2 g _ pg1 (by simpa using hgb) (fun c fz e => by injection e with _ e _; exact absurd e (by decide))
  clear hb2
  refine hK.out _ _ ?_ (fun hHeld2 => ?_)
  · obtain ⟨_, _, y2, _, _, _⟩ := pg2.six
    exact y2
  replace hHeld := hHeld2
  clear hK K hHeld2
  (try simp only [List.setIfInBounds_toArray, List.set_cons_zero, List.set_cons_succ])
  refine take_at 6 (by kernel_rfl) (by kernel_rfl) (by kernel_rfl) (fun _ _ d _ _ h => by cases d <;> exact h) ⟨_, rfl⟩ (by assumption) (fun o ho => ?_)
  simp only [List.getElem?_toArray, List.getElem?_cons_succ, List.getElem?_cons_zero, Option.some.injEq] at ho
  subst ho
  refine ⟨?_, ⟨by rfl, ?_⟩, ?_⟩
  rotate_left
  · intro w hSw
    (try dsimp only at hSw)
    (go_simp; try with_reducible rfl)
  (try simp only [Act.put, List.setIfInBounds_toArray, List.set_cons_zero, List.set_cons_succ])
  refine take_at 7 (by kernel_rfl) (by kernel_rfl) (by kernel_rfl) (fun _ _ d _ _ h => by cases d <;> exact h) ⟨_, rfl⟩ (by assumption) (fun o ho => ?_)
  simp only [List.getElem?_toArray, List.getElem?_cons_succ, List.getElem?_cons_zero, Option.some.injEq] at ho
  subst ho
  refine ⟨?_, ⟨by rfl, ?_⟩, ?_⟩
  rotate_left
  · intro w hSw
    (try dsimp only at hSw)
    (go_simp; try with_reducible rfl)
  (try simp only [Act.put, List.setIfInBounds_toArray, List.set_cons_zero, List.set_cons_succ])
  refine wpAnyH_ready (rs := [8]) (by kernel_rfl) (by simp) ?_
  refine ready_at 8 ⟨_, rfl⟩ (fun o ho K hK => ?_) AllReadyH.nil
  simp only [List.getElem?_toArray, List.getElem?_cons_succ, List.getElem?_cons_zero, Option.some.injEq] at ho
  subst ho
  go_simp
  go_at_call 78
  refine (wstr_w B b bs _ w2 HB2.out ?_ hB2).mono ?_
  · exact hlS
  rintro e w3 ⟨rfl, h3, hb3, hk3⟩
  have pg3 : Blk w3 g 28 #[.int .i64 22, .string ⟨#[]⟩, .slice A1 nn c1, .bool false, .slice A2 0 c2, .slice (some ⟨kb, ko, none⟩) 1 c3] := hk3 g _ pg2 (by simpa using hgb) (fun c fz e => by injection e with _ e _; exact absurd e (by decide))
  have HBW3 := Lib.hid ((HBW2.out).trans hb3)
  have HK3 := Lib.hid ((HK2.out).trans hk3)
  have HI4 := Lib.hid (HI3.out.under HR.out hb3)
  have hB3 : B ≤ w3.heap.size := Nat.le_trans hB2 hb3.size
  have H3 := Lib.hid h3
  clear h3 hb3 hk3
  refine hK.out _ _ ?_ (fun hHeld2 => ?_)
  · obtain ⟨_, _, y2, _, _, _⟩ := pg3.six
    exact y2
  replace hHeld := hHeld2
  clear hK K hHeld2
  (try simp only [List.setIfInBounds_toArray, List.set_cons_zero, List.set_cons_succ])
  refine wpAnyH_done (by kernel_rfl) ?_ _
  clear hHeld x0 x1 x2 x3 x4 x5
  obtain ⟨y0, y1, y2, y3, y4, y5⟩ := H6.out.keep (fun p v hp hc => (HBW3.out.cell (by rw [hp]; exact hkB)).trans hc)
  obtain ⟨x0, x1, x2, x3, x4, x5⟩ := pg3.six
  clear ps pg1 pg2 pg3
  go_wp2_with (go_at_call 43; refine (HIH.out B b _ 1 true _ R _ (by decide) HI4.out HR.out (.inr H3.out) HL1.out hB3).mono ?_; rintro e w4 ⟨rfl, h4, hb4, hk4⟩)
  go_end0
  exact ⟨rfl, h4, HBW3.out.trans hb4, HK3.out.trans hk4⟩
end Go.Proofs.YthiadenmljbdaaaGreatDoor
end

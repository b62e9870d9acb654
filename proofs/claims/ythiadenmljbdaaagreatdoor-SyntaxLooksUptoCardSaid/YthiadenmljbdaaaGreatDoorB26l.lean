/-
  l: the parts WVar WTerm0 WAdd WSub WAdd1 WSub1 WKn1.
-/
import Derived.Test.YthiadenmljbdaaaGreatDoorB24l
import Derived.Test.YthiadenmljbdaaaGreatDoorB25l
import Derived.Test.YthiadenmljbdaaaGreatDoorB6l
import Derived.Deep.CutRange
import Derived.Test.YthiadenmljbdaaaGreatDoorB14l
import Derived.Test.YthiadenmljbdaaaGreatDoorB12l
import Derived.Test.YthiadenmljbdaaaGreatDoorB7l
import Derived.Test.YthiadenmljbdaaaGreatDoorB20l
namespace Go.Proofs.YthiadenmljbdaaaGreatDoor
section
open Go.RowKit Go.Shelf
attribute [local go_sem] Oper.semAt_some
theorem results_no {fn : Func} (h : fn.results = #[]) (t : Array Value) (w : World) : (results fn t).run Tryz.prog w = .ok (.tuple #[]) w := by
 simp [results, h]
theorem leaves_tmps {fn : Func} (hr : fn.results = #[]) (t t' : Array Value) (R : Ending → World → Prop) : ∀ (ds : List Deferred) (u : FrameMode) (w : World), Leaves Tryz.prog fn t R ds u w → Leaves Tryz.prog fn t' R ds u w
 | [], .returning, w, h => by
  unfold Leaves at h ⊢
  obtain ⟨v, h1, h2⟩ := h
  rw [results_no hr] at h1
  exact ⟨v, by rw [results_no hr]; exact h1, h2⟩
 | [], .panicking _, _, h => by
  unfold Leaves at h ⊢
  exact h
 | [], .run, _, h => by
  unfold Leaves at h
  exact h.elim
 | d :: ds, u, w, h => by
  have ih := leaves_tmps hr t t' R ds
  unfold Leaves at h ⊢
  obtain ⟨hu, fv, cap, f, args, h1, h2, h3⟩ := h
  refine ⟨hu, fv, cap, f, args, h1, h2, h3.mono (fun e u' w' hx => ?_)⟩
  cases e
  all_goals first | exact ih _ _ hx | exact hx
theorem isB_alloc {B b : Nat} {bs : List Value} {w : World} (h : Lib.IsBuilder TW TB B b bs w) (o : Obj) : Lib.IsBuilder TW TB B b bs (w.alloc o) := by
 rcases h with h | h
 · have hl := h.lt
   obtain ⟨hB, v, hbk, hown, hne⟩ := h
   exact .inl ⟨hB, v, (Lib.alloc_old w o b hl).trans hbk, hown.alloc _, hne⟩
 · have hl := h.lt
   obtain ⟨hB, v, hbk, hown, hne⟩ := h
   exact .inr ⟨hB, v, (Lib.alloc_old w o b hl).trans hbk, hown.alloc _, hne⟩
set_option maxHeartbeats 1600000 in
set_option maxRecDepth 100000 in
theorem term_var (B b : Nat) (bs : List Value) (s : ByteArray) (tg : Bool) (w : World) (R : Nat → Prop) (v : Value) (h : T.In w R (.node 2 s [] false [] []) v) (hIs : Lib.IsBuilder TW TB B b bs w) (hlen : bs.length + s.size ≤ 140737488355328) (hBw : B ≤ w.heap.size) :
    Calls Tryz.prog 115 #[.pointer (some ⟨b, 0, none⟩), v, .bool tg] w fun e w' => e = .returned (.tuple #[]) ∧ (Lib.BuilderAt TW TB B b (.pointer (some ⟨b, 0, none⟩)) (bs ++ Lib.strCells s) w' ∧ Below B w w' ∧ Lib.OthersKept TB (some b) w w') := by
  rw [T.In] at h
  obtain ⟨A1, c1, A2, c2, A3, c3, rfl, _⟩ := h
  unfold tv
  simp only [List.length_nil]
  refine calls_of_wp_defers Tryz.func115 rfl ?_
  simp only [Tryz.ntmps115, List.size_toArray, List.length_cons, List.length_nil, Nat.reduceAdd, Nat.reduceSub, Array.replicate_succ, Array.replicate_zero, List.push_toArray, List.append_toArray, List.nil_append, List.cons_append]
  have HP : ∀ (Q : Exit → Act → World → Prop), Q = bodyPostD Tryz.prog Tryz.f115 (fun e w' => e = .returned (.tuple #[]) ∧ (Lib.BuilderAt TW TB B b (.pointer (some ⟨b, 0, none⟩)) (bs ++ Lib.strCells s) w' ∧ Below B w w' ∧ Lib.OthersKept TB (some b) w w')) → ∀ c a d v w, Q (.panic c) (a.put d v) w → Q (.panic c) a w := fun Q hQ c a d v w h => by
   subst hQ
   cases d with
   | none => exact h
   | some x => exact leaves_tmps (by kernel_rfl) (a.put (some x) v).tmps _ _ _ _ _ h
  generalize hQ : bodyPostD Tryz.prog Tryz.f115 _ = Q
  replace HP := HP Q hQ.symm
  have HQ := Lib.hid hQ
  clear hQ
  go_upto_region 14 with (fail)
  obtain ⟨W, hW, ps, hbW⟩ := made_blk w #[.int .i64 2, .string s, .slice A1 0 c1, .bool false, .slice A2 0 c2, .slice A3 0 c3] 28
  obtain ⟨g, hg⟩ : ∃ g, g = w.heap.size := ⟨_, rfl⟩
  have HB : Hid (Lib.IsBuilder TW TB B b bs W) := Lib.hid (hW ▸ isB_alloc hIs _)
  have HK : Hid (Lib.OthersKept TB (some b) w W) := Lib.hid (hW ▸ (Lib.OthersKept.refl TB (some b) w).alloc _)
  have hBW : B ≤ W.heap.size := Nat.le_trans hBw hbW.size
  have HBW := Lib.hid (hbW.mono hBw)
  rw [← hW, ← hg]
  rw [← hg] at ps
  have hgb : g ≠ b := by
   have : b < w.heap.size := by rcases hIs with h' | h' <;> exact h'.lt
   omega
  clear hW hbW hIs hBw hg
  obtain ⟨x0, x1, x2, x3, x4, x5⟩ := ps.six
  refine wp_region_held_drew (S := fun w' => w'.cell? ⟨g, 1, none⟩ = some (.string s)) (by kernel_rfl) (by exact x1) (fun hHeld => ?_)
  refine take_at 0 (by kernel_rfl) (by kernel_rfl) (by kernel_rfl) (fun c a d v w h => HP c a d v w h) ⟨_, rfl⟩ (by assumption) (fun o ho => ?_)
  simp only [zg1, zg3, zg4] at ho
  subst ho
  refine ⟨?_, ⟨by rfl, ?_⟩, ?_⟩
  rotate_left
  · intro w hSw
    (try dsimp only at hSw)
    (go_simp; try with_reducible rfl)
  (try simp only [Act.put, zs1, zs2, zs3])
  refine take_at 1 (by kernel_rfl) (by kernel_rfl) (by kernel_rfl) (fun c a d v w h => HP c a d v w h) ⟨_, rfl⟩ (by assumption) (fun o ho => ?_)
  simp only [zg1, zg2, zg3, zg4] at ho
  subst ho
  refine ⟨?_, ⟨by rfl, ?_⟩, ?_⟩
  rotate_left
  · intro w hSw
    (try dsimp only at hSw)
    (go_simp; try with_reducible rfl)
  (try simp only [Act.put, zs1, zs2, zs3])
  refine take_at 2 (by kernel_rfl) (by kernel_rfl) (by kernel_rfl) (fun c a d v w h => HP c a d v w h) ⟨_, rfl⟩ (by assumption) (fun o ho => ?_)
  simp only [zg1, zg2, zg3, zg4] at ho
  subst ho
  refine ⟨?_, ⟨by rfl, ?_⟩, ?_⟩
  rotate_left
  · intro w hSw
    (try dsimp only at hSw)
    (go_simp; try with_reducible rfl)
  (try simp only [Act.put, zs1, zs2, zs3])
  refine take_at 3 (by kernel_rfl) (by kernel_rfl) (by kernel_rfl) (fun c a d v w h => HP c a d v w h) ⟨_, rfl⟩ (by assumption) (fun o ho => ?_)
  simp only [zg1, zg2, zg3, zg4] at ho
  subst ho
  refine ⟨?_, ⟨by rfl, ?_⟩, ?_⟩
  rotate_left
  · intro w hSw
    (try dsimp only at hSw)
    (go_simp; try with_reducible rfl)
  (try simp only [Act.put, zs1, zs2, zs3])
  refine take_at 4 (by kernel_rfl) (by kernel_rfl) (by kernel_rfl) (fun c a d v w h => HP c a d v w h) ⟨_, rfl⟩ (by assumption) (fun o ho => ?_)
  simp only [zg1, zg2, zg3, zg4] at ho
  subst ho
  refine ⟨?_, ⟨by rfl, ?_⟩, ?_⟩
  rotate_left
  · intro w hSw
    (try dsimp only at hSw)
    (go_simp; try with_reducible rfl)
  (try simp only [Act.put, zs1, zs2, zs3])
  refine wpAnyH_ready (rs := [5]) (by kernel_rfl) (by simp) ?_
  refine ready_at 5 ⟨_, rfl⟩ (fun o ho K hK => ?_) AllReadyH.nil
  simp only [zg1, zg2, zg3, zg4] at ho
  subst ho
  go_simp
  go_at_call 78
  refine (wstr_w B b bs s W.drew HB.out hlen hBW).mono ?_
  rintro e w1 ⟨rfl, h1, hb1, hk1⟩
  have pg : Blk w1 g 28 #[.int .i64 2, .string s, .slice A1 0 c1, .bool false, .slice A2 0 c2, .slice A3 0 c3] := hk1 g _ ps (by simpa using hgb) (fun c fz e => by injection e with _ e _; exact absurd e (by decide))
  refine hK.out _ _ ?_ (fun hHeld2 => ?_)
  · obtain ⟨_, y1, _, _, _, _⟩ := pg.six
    exact y1
  replace hHeld := hHeld2
  clear hK K hHeld2
  (try simp only [zs1, zs2, zs3])
  refine wpAnyH_done (by kernel_rfl) ?_ _
  go_wp2
  rw [← HQ.out]
  exact ⟨_, results_no (by kernel_rfl) _ _, rfl, h1, (HBW.out.drew).trans hb1, (HK.out.drew).trans hk1⟩
end
section
open Go.RowKit Go.Shelf
def termB (t : T) (tg : Bool) : List UInt8 := P.bytes (if tg = true then P.tight (P.pt t) else P.body t true)
def TermW (t : T) : Prop := ∀ (B b : Nat) (bs : List Value) (tg : Bool) (w : World) (R : Nat → Prop) (v : Value), T.In w R t v → (∀ g, R g → g < B) → Lib.IsBuilder TW TB B b bs w →
    bs.length + (termB t tg).length ≤ 140737488355328 → B ≤ w.heap.size →
    Calls Tryz.prog 115 #[.pointer (some ⟨b, 0, none⟩), v, .bool tg] w fun e w' => e = .returned (.tuple #[]) ∧ (Lib.BuilderAt TW TB B b (.pointer (some ⟨b, 0, none⟩)) (bs ++ Lib.byteCells (termB t tg)) w' ∧ Below B w w' ∧ Lib.OthersKept TB (some b) w w')
theorem T.In.under {w w' : World} {R : Nat → Prop} {t : T} {v : Value} {B : Nat} (h : T.In w R t v) (hR : ∀ g, R g → g < B) (hb : Below B w w') : T.In w' R t v :=
 h.fr (fun b hb' => hb.block b (hR b hb'))
theorem hp_term (R : Ending → World → Prop) : ∀ c a d v w, bodyPostD Tryz.prog Tryz.f115 R (.panic c) (a.put d v) w → bodyPostD Tryz.prog Tryz.f115 R (.panic c) a w := fun c a d v w h => by
 cases d with
 | none => exact h
 | some x => exact leaves_tmps (by kernel_rfl) (a.put (some x) v).tmps _ _ _ _ _ h
theorem term_name (s : ByteArray) : TermW (.node 2 s [] false [] []) := by
 intro B b bs tg w R v h _ hIs hlen hBw
 have e : termB (.node 2 s [] false [] []) tg = s.data.toList := by
  cases tg
  · show P.bytes [P.Nm s] = _
    simp [P.bytes, P.itB]
  · show P.bytes [P.Nm s] = _
    simp [P.bytes, P.itB]
 have e2 : s.data.toList.length = s.size := Array.length_toList
 have e3 : Lib.strCells s = Lib.byteCells s.data.toList := by first | rfl | simp [Lib.strCells, Lib.byteCells]
 rw [e] at hlen ⊢
 rw [← e3]
 exact term_var B b bs s tg w R v h hIs (by omega) hBw
end
section
open Go.RowKit Go.Shelf
attribute [local go_sem] Oper.semAt_some
set_option maxHeartbeats 1600000 in
set_option maxRecDepth 100000 in
theorem term_add0 (t u : T) (iht : TermW t) (ihu : TermW u) (B b : Nat) (bs : List Value) (w : World) (R : Nat → Prop) (v : Value) (h : T.In w R (P.nd 4 [t, u]) v) (hR : ∀ g, R g → g < B) (hIs : Lib.IsBuilder TW TB B b bs w)
    (hlen : bs.length + ((termB t false).length + (3 + (termB u true).length)) ≤ 140737488355328) (hBw : B ≤ w.heap.size) :
    Calls Tryz.prog 115 #[.pointer (some ⟨b, 0, none⟩), v, .bool false] w fun e w' => e = .returned (.tuple #[]) ∧ (Lib.BuilderAt TW TB B b (.pointer (some ⟨b, 0, none⟩)) (((bs ++ Lib.byteCells (termB t false)) ++ Lib.strCells ⟨#[32, 43, 32]⟩) ++ Lib.byteCells (termB u true)) w' ∧ Below B w w' ∧ Lib.OthersKept TB (some b) w w') := by
  rw [P.nd, T.In] at h
  obtain ⟨A1, c1, A2, c2, A3, c3, rfl, _, _, hc3, hk⟩ := h
  obtain ⟨kb, ko, rfl, hRk, hI⟩ := hk (by simp)
  rw [T.Ins, T.Ins] at hI
  obtain ⟨⟨v0, v1, v2, v3, v4, v5, h6, hI0⟩, ⟨u0, u1, u2, u3, u4, u5, k6, hJ0⟩, _⟩ := hI
  have hkB := hR kb hRk
  have IHT := Lib.hid iht
  have IHU := Lib.hid ihu
  have H6 := Lib.hid h6
  have K6 := Lib.hid k6
  have HI := Lib.hid hI0
  have HJ := Lib.hid hJ0
  have HR := Lib.hid hR
  clear iht ihu h6 hI0 k6 hJ0 hR hk
  unfold tv
  simp only [List.length_nil, List.length_cons, Nat.zero_add, Nat.reduceAdd]
  refine calls_of_wp_defers Tryz.func115 rfl ?_
  simp only [Tryz.ntmps115, List.size_toArray, List.length_cons, List.length_nil, Nat.reduceAdd, Nat.reduceSub, Array.replicate_succ, Array.replicate_zero, List.push_toArray, List.append_toArray, List.nil_append, List.cons_append]
  have HP := hp_term (fun e w' => e = .returned (.tuple #[]) ∧ (Lib.BuilderAt TW TB B b (.pointer (some ⟨b, 0, none⟩)) (((bs ++ Lib.byteCells (termB t false)) ++ Lib.strCells ⟨#[32, 43, 32]⟩) ++ Lib.byteCells (termB u true)) w' ∧ Below B w w' ∧ Lib.OthersKept TB (some b) w w'))
  generalize hQ : bodyPostD Tryz.prog Tryz.f115 _ = Q at HP ⊢
  have HQ := Lib.hid hQ
  clear hQ
  go_upto_region 6 with (fail)
  obtain ⟨W, hW, ps, hbW⟩ := made_blk w #[.int .i64 4, .string ⟨#[]⟩, .slice A1 0 c1, .bool false, .slice A2 0 c2, .slice (some ⟨kb, ko, none⟩) 2 c3] 28
  obtain ⟨g, hg⟩ : ∃ g, g = w.heap.size := ⟨_, rfl⟩
  have HB : Hid (Lib.IsBuilder TW TB B b bs W) := Lib.hid (hW ▸ isB_alloc hIs _)
  have HK : Hid (Lib.OthersKept TB (some b) w W) := Lib.hid (hW ▸ (Lib.OthersKept.refl TB (some b) w).alloc _)
  have hBW : B ≤ W.heap.size := Nat.le_trans hBw hbW.size
  have HBW := Lib.hid (hbW.mono hBw)
  rw [← hW, ← hg]
  rw [← hg] at ps
  have hgb : g ≠ b := by
   have : b < w.heap.size := by rcases hIs with h' | h' <;> exact h'.lt
   omega
  clear hW hbW hIs hBw hg
  obtain ⟨x0, x1, x2, x3, x4, x5⟩ := ps.six
  obtain ⟨y0, y1, y2, y3, y4, y5⟩ := H6.out.keep (fun p v hp hc => (HBW.out.cell (by rw [hp]; exact hkB)).trans hc)
  have HI1 := Lib.hid (HI.out.under HR.out HBW.out)
  have hl1 : bs.length + (termB t false).length ≤ 140737488355328 := by omega
  have HPS := Lib.hid ps
  clear ps
  go_upto_region 7 with (go_at_call 115; refine (IHT.out B b bs false _ R _ HI1.out HR.out HB.out hl1 hBW).mono ?_; rintro e w1 ⟨rfl, h1, hb1, hk1⟩)
  have pg : Blk w1 g 28 #[.int .i64 4, .string ⟨#[]⟩, .slice A1 0 c1, .bool false, .slice A2 0 c2, .slice (some ⟨kb, ko, none⟩) 2 c3] := hk1 g _ HPS.out (by simpa using hgb) (fun c fz e => by injection e with _ e _; exact absurd e (by decide))
  have HBB := Lib.hid (HBW.out.trans hb1)
  have HK1 := Lib.hid (HK.out.trans hk1)
  have hB1 : B ≤ w1.heap.size := Nat.le_trans hBW hb1.size
  clear x0 x1 x2 x3 x4 x5 y0 y1 y2 y3 y4 y5
  obtain ⟨x0, x1, x2, x3, x4, x5⟩ := pg.six
  have H1 := Lib.hid h1
  have HPG := Lib.hid pg
  have hl2 : (bs ++ Lib.byteCells (termB t false)).length + (⟨#[32, 43, 32]⟩ : ByteArray).size ≤ 140737488355328 := by rw [List.length_append, Lib.byteCells_length]; have : (⟨#[32, 43, 32]⟩ : ByteArray).size = 3 := rfl; omega
  have hl3 : ((bs ++ Lib.byteCells (termB t false)) ++ Lib.strCells ⟨#[32, 43, 32]⟩).length + (termB u true).length ≤ 140737488355328 := by rw [List.length_append, List.length_append, Lib.byteCells_length, Lib.strCells_length]; have : (⟨#[32, 43, 32]⟩ : ByteArray).size = 3 := rfl; omega
  clear h1 hk1 hb1 pg
  go_wp2_with (first
   | (go_at_call 115; refine (IHU.out B b ((bs ++ Lib.byteCells (termB t false)) ++ Lib.strCells ⟨#[32, 43, 32]⟩) true _ R _ HJ3.out HR.out (.inr H3.out) hl3 hB3).mono ?_; rintro e w4 ⟨rfl, h4, hb4, hk4⟩)
   | (go_at_call 78; refine (wstr_w B b (bs ++ Lib.byteCells (termB t false)) ⟨#[32, 43, 32]⟩ _ (.inr H1.out) hl2 hB1).mono ?_; rintro e w3 ⟨rfl, h3, hb3, hk3⟩; have pg3 : Blk w3 g 28 #[.int .i64 4, .string ⟨#[]⟩, .slice A1 0 c1, .bool false, .slice A2 0 c2, .slice (some ⟨kb, ko, none⟩) 2 c3] := hk3 g _ HPG.out (by simpa using hgb) (fun c fz e => by injection e with _ e _; exact absurd e (by decide)); have HB3 := Lib.hid (HBB.out.trans hb3); have HK3 := Lib.hid (HK1.out.trans hk3); have hB3 : B ≤ w3.heap.size := Nat.le_trans hB1 hb3.size; have H3 := Lib.hid h3; have HJ3 := Lib.hid (HJ.out.under HR.out HB3.out); clear x0 x1 x2 x3 x4 x5 h3 hk3 hb3; obtain ⟨x0, x1, x2, x3, x4, x5⟩ := pg3.six; obtain ⟨y0, y1, y2, y3, y4, y5⟩ := K6.out.keep (fun p v hp hc => (HB3.out.cell (by rw [hp]; exact hkB)).trans hc)))
  rw [← HQ.out]
  exact ⟨_, results_no (by kernel_rfl) _ _, rfl, h4, HB3.out.trans hb4, HK3.out.trans hk4⟩
end
section
open Go.RowKit Go.Shelf
attribute [local go_sem] Oper.semAt_some
set_option maxHeartbeats 1600000 in
set_option maxRecDepth 100000 in
theorem term_sub0 (t u : T) (iht : TermW t) (ihu : TermW u) (B b : Nat) (bs : List Value) (w : World) (R : Nat → Prop) (v : Value) (h : T.In w R (P.nd 5 [t, u]) v) (hR : ∀ g, R g → g < B) (hIs : Lib.IsBuilder TW TB B b bs w)
    (hlen : bs.length + ((termB t false).length + (3 + (termB u true).length)) ≤ 140737488355328) (hBw : B ≤ w.heap.size) :
    Calls Tryz.prog 115 #[.pointer (some ⟨b, 0, none⟩), v, .bool false] w fun e w' => e = .returned (.tuple #[]) ∧ (Lib.BuilderAt TW TB B b (.pointer (some ⟨b, 0, none⟩)) (((bs ++ Lib.byteCells (termB t false)) ++ Lib.strCells ⟨#[32, 45, 32]⟩) ++ Lib.byteCells (termB u true)) w' ∧ Below B w w' ∧ Lib.OthersKept TB (some b) w w') := by
  rw [P.nd, T.In] at h
  obtain ⟨A1, c1, A2, c2, A3, c3, rfl, _, _, hc3, hk⟩ := h
  obtain ⟨kb, ko, rfl, hRk, hI⟩ := hk (by simp)
  rw [T.Ins, T.Ins] at hI
  obtain ⟨⟨v0, v1, v2, v3, v4, v5, h6, hI0⟩, ⟨u0, u1, u2, u3, u4, u5, k6, hJ0⟩, _⟩ := hI
  have hkB := hR kb hRk
  have IHT := Lib.hid iht
  have IHU := Lib.hid ihu
  have H6 := Lib.hid h6
  have K6 := Lib.hid k6
  have HI := Lib.hid hI0
  have HJ := Lib.hid hJ0
  have HR := Lib.hid hR
  clear iht ihu h6 hI0 k6 hJ0 hR hk
  unfold tv
  simp only [List.length_nil, List.length_cons, Nat.zero_add, Nat.reduceAdd]
  refine calls_of_wp_defers Tryz.func115 rfl ?_
  simp only [Tryz.ntmps115, List.size_toArray, List.length_cons, List.length_nil, Nat.reduceAdd, Nat.reduceSub, Array.replicate_succ, Array.replicate_zero, List.push_toArray, List.append_toArray, List.nil_append, List.cons_append]
  have HP := hp_term (fun e w' => e = .returned (.tuple #[]) ∧ (Lib.BuilderAt TW TB B b (.pointer (some ⟨b, 0, none⟩)) (((bs ++ Lib.byteCells (termB t false)) ++ Lib.strCells ⟨#[32, 45, 32]⟩) ++ Lib.byteCells (termB u true)) w' ∧ Below B w w' ∧ Lib.OthersKept TB (some b) w w'))
  generalize hQ : bodyPostD Tryz.prog Tryz.f115 _ = Q at HP ⊢
  have HQ := Lib.hid hQ
  clear hQ
  go_upto_region 6 with (fail)
  obtain ⟨W, hW, ps, hbW⟩ := made_blk w #[.int .i64 5, .string ⟨#[]⟩, .slice A1 0 c1, .bool false, .slice A2 0 c2, .slice (some ⟨kb, ko, none⟩) 2 c3] 28
  obtain ⟨g, hg⟩ : ∃ g, g = w.heap.size := ⟨_, rfl⟩
  have HB : Hid (Lib.IsBuilder TW TB B b bs W) := Lib.hid (hW ▸ isB_alloc hIs _)
  have HK : Hid (Lib.OthersKept TB (some b) w W) := Lib.hid (hW ▸ (Lib.OthersKept.refl TB (some b) w).alloc _)
  have hBW : B ≤ W.heap.size := Nat.le_trans hBw hbW.size
  have HBW := Lib.hid (hbW.mono hBw)
  rw [← hW, ← hg]
  rw [← hg] at ps
  have hgb : g ≠ b := by
   have : b < w.heap.size := by rcases hIs with h' | h' <;> exact h'.lt
   omega
  clear hW hbW hIs hBw hg
  obtain ⟨x0, x1, x2, x3, x4, x5⟩ := ps.six
  obtain ⟨y0, y1, y2, y3, y4, y5⟩ := H6.out.keep (fun p v hp hc => (HBW.out.cell (by rw [hp]; exact hkB)).trans hc)
  have HI1 := Lib.hid (HI.out.under HR.out HBW.out)
  have hl1 : bs.length + (termB t false).length ≤ 140737488355328 := by omega
  have HPS := Lib.hid ps
  clear ps
  go_upto_region 7 with (go_at_call 115; refine (IHT.out B b bs false _ R _ HI1.out HR.out HB.out hl1 hBW).mono ?_; rintro e w1 ⟨rfl, h1, hb1, hk1⟩)
  have pg : Blk w1 g 28 #[.int .i64 5, .string ⟨#[]⟩, .slice A1 0 c1, .bool false, .slice A2 0 c2, .slice (some ⟨kb, ko, none⟩) 2 c3] := hk1 g _ HPS.out (by simpa using hgb) (fun c fz e => by injection e with _ e _; exact absurd e (by decide))
  have HBB := Lib.hid (HBW.out.trans hb1)
  have HK1 := Lib.hid (HK.out.trans hk1)
  have hB1 : B ≤ w1.heap.size := Nat.le_trans hBW hb1.size
  clear x0 x1 x2 x3 x4 x5 y0 y1 y2 y3 y4 y5
  obtain ⟨x0, x1, x2, x3, x4, x5⟩ := pg.six
  have H1 := Lib.hid h1
  have HPG := Lib.hid pg
  have hl2 : (bs ++ Lib.byteCells (termB t false)).length + (⟨#[32, 45, 32]⟩ : ByteArray).size ≤ 140737488355328 := by rw [List.length_append, Lib.byteCells_length]; have : (⟨#[32, 45, 32]⟩ : ByteArray).size = 3 := rfl; omega
  have hl3 : ((bs ++ Lib.byteCells (termB t false)) ++ Lib.strCells ⟨#[32, 45, 32]⟩).length + (termB u true).length ≤ 140737488355328 := by rw [List.length_append, List.length_append, Lib.byteCells_length, Lib.strCells_length]; have : (⟨#[32, 45, 32]⟩ : ByteArray).size = 3 := rfl; omega
  clear h1 hk1 hb1 pg
  go_wp2_with (first
   | (go_at_call 115; refine (IHU.out B b ((bs ++ Lib.byteCells (termB t false)) ++ Lib.strCells ⟨#[32, 45, 32]⟩) true _ R _ HJ3.out HR.out (.inr H3.out) hl3 hB3).mono ?_; rintro e w4 ⟨rfl, h4, hb4, hk4⟩)
   | (go_at_call 78; refine (wstr_w B b (bs ++ Lib.byteCells (termB t false)) ⟨#[32, 45, 32]⟩ _ (.inr H1.out) hl2 hB1).mono ?_; rintro e w3 ⟨rfl, h3, hb3, hk3⟩; have pg3 : Blk w3 g 28 #[.int .i64 5, .string ⟨#[]⟩, .slice A1 0 c1, .bool false, .slice A2 0 c2, .slice (some ⟨kb, ko, none⟩) 2 c3] := hk3 g _ HPG.out (by simpa using hgb) (fun c fz e => by injection e with _ e _; exact absurd e (by decide)); have HB3 := Lib.hid (HBB.out.trans hb3); have HK3 := Lib.hid (HK1.out.trans hk3); have hB3 : B ≤ w3.heap.size := Nat.le_trans hB1 hb3.size; have H3 := Lib.hid h3; have HJ3 := Lib.hid (HJ.out.under HR.out HB3.out); clear x0 x1 x2 x3 x4 x5 h3 hk3 hb3; obtain ⟨x0, x1, x2, x3, x4, x5⟩ := pg3.six; obtain ⟨y0, y1, y2, y3, y4, y5⟩ := K6.out.keep (fun p v hp hc => (HB3.out.cell (by rw [hp]; exact hkB)).trans hc)))
  rw [← HQ.out]
  exact ⟨_, results_no (by kernel_rfl) _ _, rfl, h4, HB3.out.trans hb4, HK3.out.trans hk4⟩
end
section
open Go.RowKit Go.Shelf
attribute [local go_sem] Oper.semAt_some
set_option maxHeartbeats 1600000 in
set_option maxRecDepth 100000 in
theorem term_add1 (t u : T) (iht : TermW t) (ihu : TermW u) (B b : Nat) (bs : List Value) (w : World) (R : Nat → Prop) (v : Value) (h : T.In w R (P.nd 4 [t, u]) v) (hR : ∀ g, R g → g < B) (hIs : Lib.IsBuilder TW TB B b bs w)
    (hlen : bs.length + ((termB t false).length + (3 + (termB u true).length)) + 2 ≤ 140737488355328) (hBw : B ≤ w.heap.size) :
    Calls Tryz.prog 115 #[.pointer (some ⟨b, 0, none⟩), v, .bool true] w fun e w' => e = .returned (.tuple #[]) ∧ (Lib.BuilderAt TW TB B b (.pointer (some ⟨b, 0, none⟩)) (((((bs ++ [Value.int .u8 40]) ++ Lib.byteCells (termB t false)) ++ Lib.strCells ⟨#[32, 43, 32]⟩) ++ Lib.byteCells (termB u true)) ++ [Value.int .u8 41]) w' ∧ Below B w w' ∧ Lib.OthersKept TB (some b) w w') := by
  rw [P.nd, T.In] at h
  obtain ⟨A1, c1, A2, c2, A3, c3, rfl, _, _, hc3, hk⟩ := h
  obtain ⟨kb, ko, rfl, hRk, hI⟩ := hk (by simp)
  rw [T.Ins, T.Ins] at hI
  obtain ⟨⟨v0, v1, v2, v3, v4, v5, h6, hI0⟩, ⟨u0, u1, u2, u3, u4, u5, k6, hJ0⟩, _⟩ := hI
  have hkB := hR kb hRk
  have IHT := Lib.hid iht
  have IHU := Lib.hid ihu
  have H6 := Lib.hid h6
  have K6 := Lib.hid k6
  have HI := Lib.hid hI0
  have HJ := Lib.hid hJ0
  have HR := Lib.hid hR
  clear iht ihu h6 hI0 k6 hJ0 hR hk
  unfold tv
  simp only [List.length_nil, List.length_cons, Nat.zero_add, Nat.reduceAdd]
  refine calls_of_wp_defers Tryz.func115 rfl ?_
  simp only [Tryz.ntmps115, List.size_toArray, List.length_cons, List.length_nil, Nat.reduceAdd, Nat.reduceSub, Array.replicate_succ, Array.replicate_zero, List.push_toArray, List.append_toArray, List.nil_append, List.cons_append]
  have HP := hp_term (fun e w' => e = .returned (.tuple #[]) ∧ (Lib.BuilderAt TW TB B b (.pointer (some ⟨b, 0, none⟩)) (((((bs ++ [Value.int .u8 40]) ++ Lib.byteCells (termB t false)) ++ Lib.strCells ⟨#[32, 43, 32]⟩) ++ Lib.byteCells (termB u true)) ++ [Value.int .u8 41]) w' ∧ Below B w w' ∧ Lib.OthersKept TB (some b) w w'))
  generalize hQ : bodyPostD Tryz.prog Tryz.f115 _ = Q at HP ⊢
  have HQ := Lib.hid hQ
  clear hQ
  go_upto_region 3 with (fail)
  obtain ⟨W, hW, ps, hbW⟩ := made_blk w #[.int .i64 4, .string ⟨#[]⟩, .slice A1 0 c1, .bool false, .slice A2 0 c2, .slice (some ⟨kb, ko, none⟩) 2 c3] 28
  obtain ⟨g, hg⟩ : ∃ g, g = w.heap.size := ⟨_, rfl⟩
  have HB : Hid (Lib.IsBuilder TW TB B b bs W) := Lib.hid (hW ▸ isB_alloc hIs _)
  have HK : Hid (Lib.OthersKept TB (some b) w W) := Lib.hid (hW ▸ (Lib.OthersKept.refl TB (some b) w).alloc _)
  have hBW : B ≤ W.heap.size := Nat.le_trans hBw hbW.size
  have HBW := Lib.hid (hbW.mono hBw)
  rw [← hW, ← hg]
  rw [← hg] at ps
  have hgb : g ≠ b := by
   have : b < w.heap.size := by rcases hIs with h' | h' <;> exact h'.lt
   omega
  clear hW hbW hIs hBw hg
  obtain ⟨x0, x1, x2, x3, x4, x5⟩ := ps.six
  go_upto_region 6 with (go_at_call 76; refine (wbyte_w B b bs 40 _ HB.out (by omega) hBW).mono ?_; rintro e V ⟨rfl, h0, hb0, hk0⟩; have pv : Blk V g 28 #[.int .i64 4, .string ⟨#[]⟩, .slice A1 0 c1, .bool false, .slice A2 0 c2, .slice (some ⟨kb, ko, none⟩) 2 c3] := hk0 g _ ps (by simpa using hgb) (fun c fz e => by injection e with _ e _; exact absurd e (by decide)); clear x0 x1 x2 x3 x4 x5; obtain ⟨x0, x1, x2, x3, x4, x5⟩ := pv.six)
  replace HBW := Lib.hid (HBW.out.trans hb0)
  replace HK := Lib.hid (HK.out.trans hk0)
  have hBV : B ≤ V.heap.size := Nat.le_trans hBW hb0.size
  clear hBW HB ps
  have hBW := hBV
  have ps := pv
  have HB := Lib.hid (show Lib.IsBuilder TW TB B b (bs ++ [Value.int .u8 40]) V from .inr h0)
  obtain ⟨bs2, hbs2⟩ : ∃ l, bs ++ [Value.int .u8 40] = l := ⟨_, rfl⟩
  have hlb : bs2.length = bs.length + 1 := by rw [← hbs2]; simp
  rw [hbs2] at HB
  have HBS := Lib.hid hbs2
  clear h0 hb0 hk0 pv hBV hbs2
  obtain ⟨y0, y1, y2, y3, y4, y5⟩ := H6.out.keep (fun p v hp hc => (HBW.out.cell (by rw [hp]; exact hkB)).trans hc)
  have HI1 := Lib.hid (HI.out.under HR.out HBW.out)
  have hl1 : bs2.length + (termB t false).length ≤ 140737488355328 := by omega
  have HPS := Lib.hid ps
  clear ps
  go_upto_region 7 with (go_at_call 115; refine (IHT.out B b bs2 false _ R _ HI1.out HR.out HB.out hl1 hBW).mono ?_; rintro e w1 ⟨rfl, h1, hb1, hk1⟩)
  have pg : Blk w1 g 28 #[.int .i64 4, .string ⟨#[]⟩, .slice A1 0 c1, .bool false, .slice A2 0 c2, .slice (some ⟨kb, ko, none⟩) 2 c3] := hk1 g _ HPS.out (by simpa using hgb) (fun c fz e => by injection e with _ e _; exact absurd e (by decide))
  have HBB := Lib.hid (HBW.out.trans hb1)
  have HK1 := Lib.hid (HK.out.trans hk1)
  have hB1 : B ≤ w1.heap.size := Nat.le_trans hBW hb1.size
  clear x0 x1 x2 x3 x4 x5 y0 y1 y2 y3 y4 y5
  obtain ⟨x0, x1, x2, x3, x4, x5⟩ := pg.six
  have H1 := Lib.hid h1
  have HPG := Lib.hid pg
  have hl2 : (bs2 ++ Lib.byteCells (termB t false)).length + (⟨#[32, 43, 32]⟩ : ByteArray).size ≤ 140737488355328 := by rw [List.length_append, Lib.byteCells_length]; have : (⟨#[32, 43, 32]⟩ : ByteArray).size = 3 := rfl; omega
  have hl3 : ((bs2 ++ Lib.byteCells (termB t false)) ++ Lib.strCells ⟨#[32, 43, 32]⟩).length + (termB u true).length ≤ 140737488355328 := by rw [List.length_append, List.length_append, Lib.byteCells_length, Lib.strCells_length]; have : (⟨#[32, 43, 32]⟩ : ByteArray).size = 3 := rfl; omega
  clear h1 hk1 hb1 pg
  go_wp2_with (first
   | (go_at_call 115; refine (IHU.out B b ((bs2 ++ Lib.byteCells (termB t false)) ++ Lib.strCells ⟨#[32, 43, 32]⟩) true _ R _ HJ3.out HR.out (.inr H3.out) hl3 hB3).mono ?_; rintro e w4 ⟨rfl, h4, hb4, hk4⟩)
   | (go_at_call 78; refine (wstr_w B b (bs2 ++ Lib.byteCells (termB t false)) ⟨#[32, 43, 32]⟩ _ (.inr H1.out) hl2 hB1).mono ?_; rintro e w3 ⟨rfl, h3, hb3, hk3⟩; have pg3 : Blk w3 g 28 #[.int .i64 4, .string ⟨#[]⟩, .slice A1 0 c1, .bool false, .slice A2 0 c2, .slice (some ⟨kb, ko, none⟩) 2 c3] := hk3 g _ HPG.out (by simpa using hgb) (fun c fz e => by injection e with _ e _; exact absurd e (by decide)); have HB3 := Lib.hid (HBB.out.trans hb3); have HK3 := Lib.hid (HK1.out.trans hk3); have hB3 : B ≤ w3.heap.size := Nat.le_trans hB1 hb3.size; have H3 := Lib.hid h3; have HJ3 := Lib.hid (HJ.out.under HR.out HB3.out); clear x0 x1 x2 x3 x4 x5 h3 hk3 hb3; obtain ⟨x0, x1, x2, x3, x4, x5⟩ := pg3.six; obtain ⟨y0, y1, y2, y3, y4, y5⟩ := K6.out.keep (fun p v hp hc => (HB3.out.cell (by rw [hp]; exact hkB)).trans hc)))
  have hl5 : (((bs2 ++ Lib.byteCells (termB t false)) ++ Lib.strCells ⟨#[32, 43, 32]⟩) ++ Lib.byteCells (termB u true)).length + 1 ≤ 140737488355328 := by rw [List.length_append, List.length_append, List.length_append, Lib.byteCells_length, Lib.byteCells_length, Lib.strCells_length]; have : (⟨#[32, 43, 32]⟩ : ByteArray).size = 3 := rfl; omega
  rw [← HQ.out]
  refine leaves_cons (f := 76) (args := #[.pointer (some ⟨b, 0, none⟩), .int .u8 41]) (by simp) (by simp [go_sem]) ?_
  refine (wbyte_d B b _ 41 _ (.inr h4) hl5 (Nat.le_trans hB3 hb4.size) .returning).mono ?_
  rintro e u' w5 ⟨rfl, rfl, h5, hb5, hk5⟩
  refine ⟨_, results_no (by kernel_rfl) _ _, rfl, ?_, (HB3.out.trans hb4).trans hb5, (HK3.out.trans hk4).trans hk5⟩
  rw [HBS.out]; exact h5
end
section
open Go.RowKit Go.Shelf
attribute [local go_sem] Oper.semAt_some
set_option maxHeartbeats 1600000 in
set_option maxRecDepth 100000 in
theorem term_sub1 (t u : T) (iht : TermW t) (ihu : TermW u) (B b : Nat) (bs : List Value) (w : World) (R : Nat → Prop) (v : Value) (h : T.In w R (P.nd 5 [t, u]) v) (hR : ∀ g, R g → g < B) (hIs : Lib.IsBuilder TW TB B b bs w)
    (hlen : bs.length + ((termB t false).length + (3 + (termB u true).length)) + 2 ≤ 140737488355328) (hBw : B ≤ w.heap.size) :
    Calls Tryz.prog 115 #[.pointer (some ⟨b, 0, none⟩), v, .bool true] w fun e w' => e = .returned (.tuple #[]) ∧ (Lib.BuilderAt TW TB B b (.pointer (some ⟨b, 0, none⟩)) (((((bs ++ [Value.int .u8 40]) ++ Lib.byteCells (termB t false)) ++ Lib.strCells ⟨#[32, 45, 32]⟩) ++ Lib.byteCells (termB u true)) ++ [Value.int .u8 41]) w' ∧ Below B w w' ∧ Lib.OthersKept TB (some b) w w') := by
  rw [P.nd, T.In] at h
  obtain ⟨A1, c1, A2, c2, A3, c3, rfl, _, _, hc3, hk⟩ := h
  obtain ⟨kb, ko, rfl, hRk, hI⟩ := hk (by simp)
  rw [T.Ins, T.Ins] at hI
  obtain ⟨⟨v0, v1, v2, v3, v4, v5, h6, hI0⟩, ⟨u0, u1, u2, u3, u4, u5, k6, hJ0⟩, _⟩ := hI
  have hkB := hR kb hRk
  have IHT := Lib.hid iht
  have IHU := Lib.hid ihu
  have H6 := Lib.hid h6
  have K6 := Lib.hid k6
  have HI := Lib.hid hI0
  have HJ := Lib.hid hJ0
  have HR := Lib.hid hR
  clear iht ihu h6 hI0 k6 hJ0 hR hk
  unfold tv
  simp only [List.length_nil, List.length_cons, Nat.zero_add, Nat.reduceAdd]
  refine calls_of_wp_defers Tryz.func115 rfl ?_
  simp only [Tryz.ntmps115, List.size_toArray, List.length_cons, List.length_nil, Nat.reduceAdd, Nat.reduceSub, Array.replicate_succ, Array.replicate_zero, List.push_toArray, List.append_toArray, List.nil_append, List.cons_append]
  have HP := hp_term (fun e w' => e = .returned (.tuple #[]) ∧ (Lib.BuilderAt TW TB B b (.pointer (some ⟨b, 0, none⟩)) (((((bs ++ [Value.int .u8 40]) ++ Lib.byteCells (termB t false)) ++ Lib.strCells ⟨#[32, 45, 32]⟩) ++ Lib.byteCells (termB u true)) ++ [Value.int .u8 41]) w' ∧ Below B w w' ∧ Lib.OthersKept TB (some b) w w'))
  generalize hQ : bodyPostD Tryz.prog Tryz.f115 _ = Q at HP ⊢
  have HQ := Lib.hid hQ
  clear hQ
  go_upto_region 3 with (fail)
  obtain ⟨W, hW, ps, hbW⟩ := made_blk w #[.int .i64 5, .string ⟨#[]⟩, .slice A1 0 c1, .bool false, .slice A2 0 c2, .slice (some ⟨kb, ko, none⟩) 2 c3] 28
  obtain ⟨g, hg⟩ : ∃ g, g = w.heap.size := ⟨_, rfl⟩
  have HB : Hid (Lib.IsBuilder TW TB B b bs W) := Lib.hid (hW ▸ isB_alloc hIs _)
  have HK : Hid (Lib.OthersKept TB (some b) w W) := Lib.hid (hW ▸ (Lib.OthersKept.refl TB (some b) w).alloc _)
  have hBW : B ≤ W.heap.size := Nat.le_trans hBw hbW.size
  have HBW := Lib.hid (hbW.mono hBw)
  rw [← hW, ← hg]
  rw [← hg] at ps
  have hgb : g ≠ b := by
   have : b < w.heap.size := by rcases hIs with h' | h' <;> exact h'.lt
   omega
  clear hW hbW hIs hBw hg
  obtain ⟨x0, x1, x2, x3, x4, x5⟩ := ps.six
  go_upto_region 6 with (go_at_call 76; refine (wbyte_w B b bs 40 _ HB.out (by omega) hBW).mono ?_; rintro e V ⟨rfl, h0, hb0, hk0⟩; have pv : Blk V g 28 #[.int .i64 5, .string ⟨#[]⟩, .slice A1 0 c1, .bool false, .slice A2 0 c2, .slice (some ⟨kb, ko, none⟩) 2 c3] := hk0 g _ ps (by simpa using hgb) (fun c fz e => by injection e with _ e _; exact absurd e (by decide)); clear x0 x1 x2 x3 x4 x5; obtain ⟨x0, x1, x2, x3, x4, x5⟩ := pv.six)
  replace HBW := Lib.hid (HBW.out.trans hb0)
  replace HK := Lib.hid (HK.out.trans hk0)
  have hBV : B ≤ V.heap.size := Nat.le_trans hBW hb0.size
  clear hBW HB ps
  have hBW := hBV
  have ps := pv
  have HB := Lib.hid (show Lib.IsBuilder TW TB B b (bs ++ [Value.int .u8 40]) V from .inr h0)
  obtain ⟨bs2, hbs2⟩ : ∃ l, bs ++ [Value.int .u8 40] = l := ⟨_, rfl⟩
  have hlb : bs2.length = bs.length + 1 := by rw [← hbs2]; simp
  rw [hbs2] at HB
  have HBS := Lib.hid hbs2
  clear h0 hb0 hk0 pv hBV hbs2
  obtain ⟨y0, y1, y2, y3, y4, y5⟩ := H6.out.keep (fun p v hp hc => (HBW.out.cell (by rw [hp]; exact hkB)).trans hc)
  have HI1 := Lib.hid (HI.out.under HR.out HBW.out)
  have hl1 : bs2.length + (termB t false).length ≤ 140737488355328 := by omega
  have HPS := Lib.hid ps
  clear ps
  go_upto_region 7 with (go_at_call 115; refine (IHT.out B b bs2 false _ R _ HI1.out HR.out HB.out hl1 hBW).mono ?_; rintro e w1 ⟨rfl, h1, hb1, hk1⟩)
  have pg : Blk w1 g 28 #[.int .i64 5, .string ⟨#[]⟩, .slice A1 0 c1, .bool false, .slice A2 0 c2, .slice (some ⟨kb, ko, none⟩) 2 c3] := hk1 g _ HPS.out (by simpa using hgb) (fun c fz e => by injection e with _ e _; exact absurd e (by decide))
  have HBB := Lib.hid (HBW.out.trans hb1)
  have HK1 := Lib.hid (HK.out.trans hk1)
  have hB1 : B ≤ w1.heap.size := Nat.le_trans hBW hb1.size
  clear x0 x1 x2 x3 x4 x5 y0 y1 y2 y3 y4 y5
  obtain ⟨x0, x1, x2, x3, x4, x5⟩ := pg.six
  have H1 := Lib.hid h1
  have HPG := Lib.hid pg
  have hl2 : (bs2 ++ Lib.byteCells (termB t false)).length + (⟨#[32, 45, 32]⟩ : ByteArray).size ≤ 140737488355328 := by rw [List.length_append, Lib.byteCells_length]; have : (⟨#[32, 45, 32]⟩ : ByteArray).size = 3 := rfl; omega
  have hl3 : ((bs2 ++ Lib.byteCells (termB t false)) ++ Lib.strCells ⟨#[32, 45, 32]⟩).length + (termB u true).length ≤ 140737488355328 := by rw [List.length_append, List.length_append, Lib.byteCells_length, Lib.strCells_length]; have : (⟨#[32, 45, 32]⟩ : ByteArray).size = 3 := rfl; omega
  clear h1 hk1 hb1 pg
  go_wp2_with (first
   | (go_at_call 115; refine (IHU.out B b ((bs2 ++ Lib.byteCells (termB t false)) ++ Lib.strCells ⟨#[32, 45, 32]⟩) true _ R _ HJ3.out HR.out (.inr H3.out) hl3 hB3).mono ?_; rintro e w4 ⟨rfl, h4, hb4, hk4⟩)
   | (go_at_call 78; refine (wstr_w B b (bs2 ++ Lib.byteCells (termB t false)) ⟨#[32, 45, 32]⟩ _ (.inr H1.out) hl2 hB1).mono ?_; rintro e w3 ⟨rfl, h3, hb3, hk3⟩; have pg3 : Blk w3 g 28 #[.int .i64 5, .string ⟨#[]⟩, .slice A1 0 c1, .bool false, .slice A2 0 c2, .slice (some ⟨kb, ko, none⟩) 2 c3] := hk3 g _ HPG.out (by simpa using hgb) (fun c fz e => by injection e with _ e _; exact absurd e (by decide)); have HB3 := Lib.hid (HBB.out.trans hb3); have HK3 := Lib.hid (HK1.out.trans hk3); have hB3 : B ≤ w3.heap.size := Nat.le_trans hB1 hb3.size; have H3 := Lib.hid h3; have HJ3 := Lib.hid (HJ.out.under HR.out HB3.out); clear x0 x1 x2 x3 x4 x5 h3 hk3 hb3; obtain ⟨x0, x1, x2, x3, x4, x5⟩ := pg3.six; obtain ⟨y0, y1, y2, y3, y4, y5⟩ := K6.out.keep (fun p v hp hc => (HB3.out.cell (by rw [hp]; exact hkB)).trans hc)))
  have hl5 : (((bs2 ++ Lib.byteCells (termB t false)) ++ Lib.strCells ⟨#[32, 45, 32]⟩) ++ Lib.byteCells (termB u true)).length + 1 ≤ 140737488355328 := by rw [List.length_append, List.length_append, List.length_append, Lib.byteCells_length, Lib.byteCells_length, Lib.strCells_length]; have : (⟨#[32, 45, 32]⟩ : ByteArray).size = 3 := rfl; omega
  rw [← HQ.out]
  refine leaves_cons (f := 76) (args := #[.pointer (some ⟨b, 0, none⟩), .int .u8 41]) (by simp) (by simp [go_sem]) ?_
  refine (wbyte_d B b _ 41 _ (.inr h4) hl5 (Nat.le_trans hB3 hb4.size) .returning).mono ?_
  rintro e u' w5 ⟨rfl, rfl, h5, hb5, hk5⟩
  refine ⟨_, results_no (by kernel_rfl) _ _, rfl, ?_, (HB3.out.trans hb4).trans hb5, (HK3.out.trans hk4).trans hk5⟩
  rw [HBS.out]; exact h5
end
section
open Go.RowKit
def knS : ByteArray := ⟨#[110, 111, 116, 40, 120, 60, 49, 41, 111, 114, 32, 115, 111, 109, 101, 32, 121, 46, 50, 32, 100, 105, 118, 105, 100, 101, 115, 32, 120, 45, 40, 121, 43, 49, 41]⟩
def knP : ByteArray := ⟨#[110, 111, 116, 32, 120, 32, 60, 32, 49, 32, 111, 114, 32, 115, 111, 109, 101, 32, 121, 32, 46, 32, 50, 32, 100, 105, 118, 105, 100, 101, 115, 32, 120, 32, 45, 32, 40, 121, 32, 43, 32, 49, 41]⟩
def knX : T := .node 2 ⟨#[120]⟩ [] false [] []
def knY : T := .node 2 ⟨#[121]⟩ [] false [] []
def kn1 : T := .node 1 ⟨#[]⟩ [] false [1] []
def knT : T := P.nd 18 [P.nd 16 [P.nd 9 [knX, kn1]], .node 21 ⟨#[]⟩ [⟨#[121]⟩] false [] [.node 15 ⟨#[]⟩ [] false [2] [P.nd 5 [knX, P.nd 4 [knY, kn1]]]]]
theorem kn_res : P.res knS = (0, 0, knT) := by kernel_rfl
theorem kn_size : knT.size = 12 := by kernel_rfl
theorem kn_chk : knT.chk = 0 := by kernel_rfl
theorem kn_said : P.said knT = knP.data.toList := by kernel_rfl
end
end Go.Proofs.YthiadenmljbdaaaGreatDoor

/-
  l: the parts WNum WTerm WLeaf WCmp WDiv WLevel WPar WRow.
-/
import Derived.Test.YthiadenmljbdaaaGreatDoorB26l
import Derived.Test.YthiadenmljbdaaaGreatDoorB27l
namespace Go.Proofs.YthiadenmljbdaaaGreatDoor
section
open Go.RowKit
open Go.Shelf
theorem isB_below {B b : Nat} {bs : List Value} {w w' : World} (h : Lib.IsBuilder TW TB B b bs w) (hb : Below w.heap.size w w') : Lib.IsBuilder TW TB B b bs w' := by
 rcases h with h | h
 · have hl := h.lt
   obtain ⟨hB, v, hbk, hown, hne⟩ := h
   exact .inl ⟨hB, v, (hb.block b hl).trans hbk, hown.kept (gb_of_below hb none) (by cases hv : v.ownBlock <;> simp), hne⟩
 · have hl := h.lt
   obtain ⟨hB, v, hbk, hown, hne⟩ := h
   exact .inr ⟨hB, v, (hb.block b hl).trans hbk, hown.kept (gb_of_below hb none) (by cases hv : v.ownBlock <;> simp), hne⟩
theorem ok_below {b : Nat} {w w' : World} (hb : Below w.heap.size w w') : Lib.OthersKept TB (some b) w w' :=
 fun k _ hk _ _ => (hb.block k (Array.getElem?_eq_some_iff.1 hk).1).trans hk
theorem num_text {w : World} {R : Nat → Prop} {A : Option Addr} {c : Nat} {mg : List Nat} (h : SlR w R A c mg) (hl : mg.length ≤ 1099511627776) :
    Calls Tryz.prog 114 #[.agg #[.bool false, .slice A mg.length c]] w fun e w' => e = .returned (.string ⟨(N.txt (N.nv mg)).toArray⟩) ∧ Below w.heap.size w w' := by
  have hz : ztxt (N.nv mg : Int) = N.txt (N.nv mg) := by unfold ztxt; rw [if_neg (by omega)]; rfl
  rw [← hz]
  exact text_i (K := mg.length) ⟨false, N.nv mg, ⟨_, rfl, A, mg.length, c, mg, rfl, Pl.any A, h.1, rfl, Nat.le_refl _⟩, sgn_false _⟩ hl
theorem strCells_txt (x : Nat) : Lib.strCells ⟨(N.txt x).toArray⟩ = Lib.byteCells (N.txt x) := by simp [Lib.strCells, Lib.byteCells]
theorem SlR.under {w w' : World} {R : Nat → Prop} {A : Option Addr} {c : Nat} {l : List Nat} {B : Nat} (h : SlR w R A c l) (hR : ∀ g, R g → g < B) (hb : Below B w w') : SlR w' R A c l :=
 h.keep (fun _ _ hp hc => (hb.cell (hR _ hp)).trans hc) (fun _ h => h)
attribute [local go_sem] Oper.semAt_some
set_option maxHeartbeats 1600000 in
set_option maxRecDepth 100000 in
theorem term_num (m : List Nat) (hml : m.length ≤ 1099511627776) : TermW (.node 1 ⟨#[]⟩ [] false m []) := by
 intro B b bs tg w R v h hR hIs hlen hBw
 have e : termB (.node 1 ⟨#[]⟩ [] false m []) tg = N.txt (N.nv m) := by
  cases tg
  · show P.bytes [P.Nu m] = _
    simp [P.bytes, P.itB]
  · show P.bytes [P.Nu m] = _
    simp [P.bytes, P.itB]
 rw [e] at hlen ⊢
 clear e
 rw [T.In] at h
 obtain ⟨A1, c1, A2, c2, A3, c3, rfl, _, hs2, _⟩ := h
 obtain ⟨S, hS⟩ : ∃ S : ByteArray, S = ⟨(N.txt (N.nv m)).toArray⟩ := ⟨_, rfl⟩
 have hsz : S.size = (N.txt (N.nv m)).length := by rw [hS]; simp [ByteArray.size]
 have hlS : bs.length + S.size ≤ 140737488355328 := by omega
 have HSC : Hid (Lib.strCells S = Lib.byteCells (N.txt (N.nv m))) := Lib.hid (by rw [hS]; exact strCells_txt _)
 have HNT := Lib.hid (fun (w : World) (h : SlR w R A2 c2 m) => hS ▸ num_text h hml)
 have HS2 := Lib.hid hs2
 have HR := Lib.hid hR
 clear hsz hlen hS hs2 hR
 rw [← HSC.out]
 unfold tv
 simp only [List.length_nil]
 refine calls_of_wp_defers Tryz.func115 rfl ?_
 simp only [Tryz.ntmps115, List.size_toArray, List.length_cons, List.length_nil, Nat.reduceAdd, Nat.reduceSub, Array.replicate_succ, Array.replicate_zero, List.push_toArray, List.append_toArray, List.nil_append, List.cons_append]
 have HP := hp_term (fun e w' => e = .returned (.tuple #[]) ∧ (Lib.BuilderAt TW TB B b (.pointer (some ⟨b, 0, none⟩)) (bs ++ Lib.strCells S) w' ∧ Below B w w' ∧ Lib.OthersKept TB (some b) w w'))
 generalize hQ : bodyPostD Tryz.prog Tryz.f115 _ = Q at HP ⊢
 have HQ := Lib.hid hQ
 clear hQ
 go_upto_region 12 with (fail)
 obtain ⟨W, hW, ps, hbW⟩ := made_blk w #[.int .i64 1, .string ⟨#[]⟩, .slice A1 0 c1, .bool false, .slice A2 m.length c2, .slice A3 0 c3] 28
 obtain ⟨g, hg⟩ : ∃ g, g = w.heap.size := ⟨_, rfl⟩
 have HB : Hid (Lib.IsBuilder TW TB B b bs W) := Lib.hid (hW ▸ isB_alloc hIs _)
 have HK : Hid (Lib.OthersKept TB (some b) w W) := Lib.hid (hW ▸ (Lib.OthersKept.refl TB (some b) w).alloc _)
 have hBW : B ≤ W.heap.size := Nat.le_trans hBw hbW.size
 have HBW := Lib.hid (hbW.mono hBw)
 have HS3 := Lib.hid (HS2.out.under HR.out HBW.out)
 rw [← hW, ← hg]
 rw [← hg] at ps
 have hgb : g ≠ b := by
  have : b < w.heap.size := by rcases hIs with h' | h' <;> exact h'.lt
  omega
 clear hW hbW hIs hBw hg
 obtain ⟨x0, x1, x2, x3, x4, x5⟩ := ps.six
 refine wp_region_held_drew (S := fun w' => w'.cell? ⟨g, 3, none⟩ = some (.bool false) ∧ w'.cell? ⟨g, 4, none⟩ = some (.slice A2 m.length c2)) (by kernel_rfl) (by exact ⟨x3, x4⟩) (fun hHeld => ?_)
 refine take_at 0 (by kernel_rfl) (by kernel_rfl) (by kernel_rfl) (fun c a d v w h => HP c a d v w h) ⟨_, rfl⟩ (by assumption) (fun o ho => ?_)
 simp only [zg1, zg3, zg4] at ho
 subst ho
 refine ⟨?_, ⟨by rfl, ?_⟩, ?_⟩
 rotate_left
 · intro w hSw
   (try dsimp only at hSw)
   obtain ⟨hS1, hS2⟩ := hSw
   (go_simp; try with_reducible rfl)
 (try simp only [Act.put, zs1, zs2, zs3])
 refine take_at 1 (by kernel_rfl) (by kernel_rfl) (by kernel_rfl) (fun c a d v w h => HP c a d v w h) ⟨_, rfl⟩ (by assumption) (fun o ho => ?_)
 simp only [zg1, zg2, zg3, zg4] at ho
 subst ho
 refine ⟨?_, ⟨by rfl, ?_⟩, ?_⟩
 rotate_left
 · intro w hSw
   (try dsimp only at hSw)
   obtain ⟨hS1, hS2⟩ := hSw
   (go_simp; try with_reducible rfl)
 (try simp only [Act.put, zs1, zs2, zs3])
 refine take_at 2 (by kernel_rfl) (by kernel_rfl) (by kernel_rfl) (fun c a d v w h => HP c a d v w h) ⟨_, rfl⟩ (by assumption) (fun o ho => ?_)
 simp only [zg1, zg2, zg3, zg4] at ho
 subst ho
 refine ⟨?_, ⟨by rfl, ?_⟩, ?_⟩
 rotate_left
 · intro w hSw
   (try dsimp only at hSw)
   obtain ⟨hS1, hS2⟩ := hSw
   (go_simp; try with_reducible rfl)
 (try simp only [Act.put, zs1, zs2, zs3])
 refine take_at 3 (by kernel_rfl) (by kernel_rfl) (by kernel_rfl) (fun c a d v w h => HP c a d v w h) ⟨_, rfl⟩ (by assumption) (fun o ho => ?_)
 simp only [zg1, zg2, zg3, zg4] at ho
 subst ho
 refine ⟨?_, ⟨by rfl, ?_⟩, ?_⟩
 rotate_left
 · intro w hSw
   (try dsimp only at hSw)
   obtain ⟨hS1, hS2⟩ := hSw
   (go_simp; try with_reducible rfl)
 (try simp only [Act.put, zs1, zs2, zs3])
 refine take_at 4 (by kernel_rfl) (by kernel_rfl) (by kernel_rfl) (fun c a d v w h => HP c a d v w h) ⟨_, rfl⟩ (by assumption) (fun o ho => ?_)
 simp only [zg1, zg2, zg3, zg4] at ho
 subst ho
 refine ⟨?_, ⟨by rfl, ?_⟩, ?_⟩
 rotate_left
 · intro w hSw
   (try dsimp only at hSw)
   obtain ⟨hS1, hS2⟩ := hSw
   (go_simp; try with_reducible rfl)
 (try simp only [Act.put, zs1, zs2, zs3])
 refine wpAnyH_ready (rs := [5]) (by kernel_rfl) (by simp) ?_
 refine ready_at 5 ⟨_, rfl⟩ (fun o ho K hK => ?_) AllReadyH.nil
 simp only [zg1, zg2, zg3, zg4] at ho
 subst ho
 go_simp
 go_at_call 114
 refine (HNT.out W.drew (HS3.out.keep (fun _ _ _ h => h) (fun _ h => h))).mono ?_
 rintro e w1 ⟨rfl, hb1⟩
 have hB1 : B ≤ w1.heap.size := Nat.le_trans hBW hb1.size
 have HB1 := Lib.hid (isB_below (show Lib.IsBuilder TW TB B b bs W.drew from HB.out) hb1)
 have HBW1 := Lib.hid ((HBW.out.drew).trans (hb1.mono hBW))
 have HK1 := Lib.hid ((HK.out.drew).trans (ok_below hb1))
 have pg1 : Blk w1 g 28 #[.int .i64 1, .string ⟨#[]⟩, .slice A1 0 c1, .bool false, .slice A2 m.length c2, .slice A3 0 c3] := ok_below hb1 g _ ps (by simpa using hgb) (fun c fz e => by injection e with _ e _; exact absurd e (by decide))
 clear hb1
 refine hK.out _ _ ?_ (fun hHeld2 => ?_)
 · obtain ⟨_, _, _, y3, y4, _⟩ := pg1.six
   exact ⟨y3, y4⟩
 replace hHeld := hHeld2
 clear hK K hHeld2
 (try simp only [zs1, zs2, zs3])
 refine wpAnyH_ready (rs := [6]) (by kernel_rfl) (by simp) ?_
 refine ready_at 6 ⟨_, rfl⟩ (fun o ho K hK => ?_) AllReadyH.nil
 simp only [zg1, zg2, zg3, zg4] at ho
 subst ho
 go_simp
 go_at_call 78
 refine (wstr_w B b bs S w1 HB1.out hlS hB1).mono ?_
 rintro e w2 ⟨rfl, h2, hb2, hk2⟩
 have pg2 : Blk w2 g 28 #[.int .i64 1, .string ⟨#[]⟩, .slice A1 0 c1, .bool false, .slice A2 m.length c2, .slice A3 0 c3] := hk2 g _ pg1 (by simpa using hgb) (fun c fz e => by injection e with _ e _; exact absurd e (by decide))
 refine hK.out _ _ ?_ (fun hHeld2 => ?_)
 · obtain ⟨_, _, _, y3, y4, _⟩ := pg2.six
   exact ⟨y3, y4⟩
 replace hHeld := hHeld2
 clear hK K hHeld2
 (try simp only [zs1, zs2, zs3])
 refine wpAnyH_done (by kernel_rfl) ?_ _
 go_wp2
 rw [← HQ.out]
 exact ⟨_, results_no (by kernel_rfl) _ _, rfl, h2, (HBW1.out).trans hb2, (HK1.out).trans hk2⟩
end
section
open Go.RowKit
open Go.Shelf
theorem termB_two (k : Int) (s : UInt8) (hk : k = 4 ∨ k = 5) (t u : T) (hb : P.body (P.nd k [t, u]) true = P.body t true ++ none :: P.Sg ⟨#[s]⟩ :: none :: P.tight (P.pt u)) :
    termB (P.nd k [t, u]) false = termB t false ++ ([32, s, 32] ++ termB u true) ∧ termB (P.nd k [t, u]) true = 40 :: ((termB t false ++ ([32, s, 32] ++ termB u true)) ++ [41]) := by
  have ht : P.tight (P.pt (P.nd k [t, u])) = P.par (P.body (P.nd k [t, u]) true) := by unfold P.tight; rw [if_pos (by exact hk)]; rfl
  have h1 : P.bytes (P.body (P.nd k [t, u]) true) = termB t false ++ ([32, s, 32] ++ termB u true) := by
   rw [hb, P.bytes_append, P.bytes_cons, P.bytes_cons, P.bytes_cons]
   rfl
  refine ⟨h1, ?_⟩
  unfold termB
  rw [if_pos rfl, ht]
  unfold P.par
  rw [P.bytes_cons, P.bytes_append, h1]
  simp only [P.bytes_cons, termB]
  rfl
end
section
open Go.RowKit
open Go.Shelf
attribute [local go_sem] Oper.semAt_some
def atomB (t : T) : List UInt8 := P.bytes (P.body t true)
def AtomW (t : T) : Prop := ∀ (B b : Nat) (bs : List Value) (w : World) (R : Nat → Prop) (v : Value), T.In w R t v → (∀ g, R g → g < B) → Lib.IsBuilder TW TB B b bs w →
    bs.length + (atomB t).length ≤ 140737488355328 → B ≤ w.heap.size →
    Calls Tryz.prog 80 #[.pointer (some ⟨b, 0, none⟩), v] w fun e w' => e = .returned (.tuple #[]) ∧ (Lib.BuilderAt TW TB B b (.pointer (some ⟨b, 0, none⟩)) (bs ++ Lib.byteCells (atomB t)) w' ∧ Below B w w' ∧ Lib.OthersKept TB (some b) w w')
end
section
open Go.RowKit
open Go.Shelf
attribute [local go_sem] Oper.semAt_some
set_option maxHeartbeats 3200000 in
set_option maxRecDepth 100000 in
theorem atom_9 (t u : T) (iht : TermW t) (ihu : TermW u) : AtomW (P.nd 9 [t, u]) := by
 intro B b bs w R v h hR hIs hlen hBw
 have e : atomB (P.nd 9 [t, u]) = termB t false ++ ([32, 60, 32] ++ termB u false) := by
  unfold atomB
  rw [P.body_cmp (by decide), P.bytes_append, P.bytes_cons, P.bytes_cons, P.bytes_cons]
  rfl
 rw [e] at hlen ⊢
 clear e
 simp only [List.length_append, List.length_cons, List.length_nil] at hlen
 have e : bs ++ Lib.byteCells (termB t false ++ ([32, 60, 32] ++ termB u false)) = ((bs ++ Lib.byteCells (termB t false)) ++ Lib.strCells ⟨#[32, 60, 32]⟩) ++ Lib.byteCells (termB u false) := by simp [Lib.byteCells, Lib.strCells]
 rw [e]
 clear e
 rw [P.nd, T.In] at h
 obtain ⟨A1, c1, A2, c2, A3, c3, rfl, _, _, hc3, hk⟩ := h
 obtain ⟨kb, ko, rfl, hRk, hI⟩ := hk (by simp)
 rw [T.Ins, T.Ins] at hI
 obtain ⟨⟨v0, v1, v2, v3, v4, v5, h6, hI0⟩, ⟨u0, u1, u2, u3, u4, u5, k6, hJ0⟩, _⟩ := hI
 have hkB := hR kb hRk
 have IHT := Lib.hid iht
 have IHU := Lib.hid ihu
 have H6 := Lib.hid h6
 have K6 := Lib.hid k6
 have HI := Lib.hid hI0
 have HJ := Lib.hid hJ0
 have HR := Lib.hid hR
 clear iht ihu h6 hI0 k6 hJ0 hR hk
 unfold tv
 simp only [List.length_nil, List.length_cons, Nat.zero_add, Nat.reduceAdd]
 go_enter Tryz.func80, Tryz.ntmps80
 go_upto_region 22 with (fail)
 obtain ⟨W, hW, ps, hbW⟩ := made_blk w #[.int .i64 9, .string ⟨#[]⟩, .slice A1 0 c1, .bool false, .slice A2 0 c2, .slice (some ⟨kb, ko, none⟩) 2 c3] 28
 obtain ⟨g, hg⟩ : ∃ g, g = w.heap.size := ⟨_, rfl⟩
 have HB : Hid (Lib.IsBuilder TW TB B b bs W) := Lib.hid (hW ▸ isB_alloc hIs _)
 have HK : Hid (Lib.OthersKept TB (some b) w W) := Lib.hid (hW ▸ (Lib.OthersKept.refl TB (some b) w).alloc _)
 have hBW : B ≤ W.heap.size := Nat.le_trans hBw hbW.size
 have HBW := Lib.hid (hbW.mono hBw)
 skip
 rw [← hW, ← hg]
 rw [← hg] at ps
 have hgb : g ≠ b := by
  have : b < w.heap.size := by rcases hIs with h' | h' <;> exact h'.lt
  omega
 clear hW hbW hIs hBw hg
 obtain ⟨x0, x1, x2, x3, x4, x5⟩ := ps.six
 obtain ⟨y0, y1, y2, y3, y4, y5⟩ := H6.out.keep (fun p v hp hc => (HBW.out.cell (by rw [hp]; exact hkB)).trans hc)
 have HI1 := Lib.hid (HI.out.under HR.out HBW.out)
 have hl1 : bs.length + (termB t false).length ≤ 140737488355328 := by omega
 have HPS := Lib.hid ps
 clear ps
 go_upto_region 23 with (go_at_call 115; refine (IHT.out B b bs false _ R _ HI1.out HR.out HB.out hl1 hBW).mono ?_; rintro e w1 ⟨rfl, h1, hb1, hk1⟩)
 have pg : Blk w1 g 28 #[.int .i64 9, .string ⟨#[]⟩, .slice A1 0 c1, .bool false, .slice A2 0 c2, .slice (some ⟨kb, ko, none⟩) 2 c3] := hk1 g _ HPS.out (by simpa using hgb) (fun c fz e => by injection e with _ e _; exact absurd e (by decide))
 have HBB := Lib.hid (HBW.out.trans hb1)
 have HK1 := Lib.hid (HK.out.trans hk1)
 have hB1 : B ≤ w1.heap.size := Nat.le_trans hBW hb1.size
 clear x0 x1 x2 x3 x4 x5 y0 y1 y2 y3 y4 y5
 obtain ⟨x0, x1, x2, x3, x4, x5⟩ := pg.six
 have H1 := Lib.hid h1
 have HPG := Lib.hid pg
 have hl2 : (bs ++ Lib.byteCells (termB t false)).length + (⟨#[32, 60, 32]⟩ : ByteArray).size ≤ 140737488355328 := by rw [List.length_append, Lib.byteCells_length]; have : (⟨#[32, 60, 32]⟩ : ByteArray).size = 3 := rfl; omega
 have hl3 : ((bs ++ Lib.byteCells (termB t false)) ++ Lib.strCells ⟨#[32, 60, 32]⟩).length + (termB u false).length ≤ 140737488355328 := by rw [List.length_append, List.length_append, Lib.byteCells_length, Lib.strCells_length]; have : (⟨#[32, 60, 32]⟩ : ByteArray).size = 3 := rfl; omega
 clear h1 hk1 hb1 pg
 go_wp2_with (first
  | (go_at_call 115; refine (IHU.out B b ((bs ++ Lib.byteCells (termB t false)) ++ Lib.strCells ⟨#[32, 60, 32]⟩) false _ R _ HJ3.out HR.out (.inr H3.out) hl3 hB3).mono ?_; rintro e w4 ⟨rfl, h4, hb4, hk4⟩)
  | (go_at_call 78; refine (wstr_w B b (bs ++ Lib.byteCells (termB t false)) ⟨#[32, 60, 32]⟩ _ (.inr H1.out) hl2 hB1).mono ?_; rintro e w3 ⟨rfl, h3, hb3, hk3⟩; have pg3 : Blk w3 g 28 #[.int .i64 9, .string ⟨#[]⟩, .slice A1 0 c1, .bool false, .slice A2 0 c2, .slice (some ⟨kb, ko, none⟩) 2 c3] := hk3 g _ HPG.out (by simpa using hgb) (fun c fz e => by injection e with _ e _; exact absurd e (by decide)); have HB3 := Lib.hid (HBB.out.trans hb3); have HK3 := Lib.hid (HK1.out.trans hk3); have hB3 : B ≤ w3.heap.size := Nat.le_trans hB1 hb3.size; have H3 := Lib.hid h3; have HJ3 := Lib.hid (HJ.out.under HR.out HB3.out); clear x0 x1 x2 x3 x4 x5 h3 hk3 hb3; obtain ⟨x0, x1, x2, x3, x4, x5⟩ := pg3.six; obtain ⟨y0, y1, y2, y3, y4, y5⟩ := K6.out.keep (fun p v hp hc => (HB3.out.cell (by rw [hp]; exact hkB)).trans hc)))
 go_end0
 exact ⟨rfl, h4, HB3.out.trans hb4, HK3.out.trans hk4⟩
end
section
open Go.RowKit
open Go.Shelf
attribute [local go_sem] Oper.semAt_some
set_option maxHeartbeats 2000000 in
set_option maxRecDepth 100000 in
theorem atom_div (m : List Nat) (hml : m.length ≤ 1099511627776) (t : T) (ih : TermW t) : AtomW (.node 15 ⟨#[]⟩ [] false m [t]) := by
 intro B b bs w R v h hR hIs hlen hBw
 have e : atomB (.node 15 ⟨#[]⟩ [] false m [t]) = (N.txt (N.nv m) ++ [32, 100, 105, 118, 105, 100, 101, 115, 32]) ++ termB t false := by
  unfold atomB
  rw [P.body_div, P.bytes_cons, P.bytes_cons, P.bytes_cons, P.bytes_cons]
  rw [List.append_assoc]
  rfl
 rw [e] at hlen ⊢
 clear e
 rw [T.In] at h
 obtain ⟨A1, c1, A2, c2, A3, c3, rfl, _, hs2, hc3, hk⟩ := h
 obtain ⟨kb, ko, rfl, hRk, hI⟩ := hk (by simp)
 rw [T.Ins] at hI
 obtain ⟨⟨v0, v1, v2, v3, v4, v5, h6, hI0⟩, _⟩ := hI
 have hkB := hR kb hRk
 obtain ⟨S, hS⟩ : ∃ S : ByteArray, S = ⟨(N.txt (N.nv m)).toArray⟩ := ⟨_, rfl⟩
 have hsz : S.size = (N.txt (N.nv m)).length := by rw [hS]; simp [ByteArray.size]
 have HSC : Hid (Lib.strCells (S ++ ⟨#[32, 100, 105, 118, 105, 100, 101, 115, 32]⟩) = Lib.byteCells (N.txt (N.nv m) ++ [32, 100, 105, 118, 105, 100, 101, 115, 32])) := Lib.hid (by rw [hS]; simp [Lib.strCells, Lib.byteCells])
 have hsz2 : (S ++ ⟨#[32, 100, 105, 118, 105, 100, 101, 115, 32]⟩ : ByteArray).size = S.size + 9 := by rw [ByteArray.size_append]; rfl
 have hlS : bs.length + (S ++ ⟨#[32, 100, 105, 118, 105, 100, 101, 115, 32]⟩ : ByteArray).size ≤ 140737488355328 := by simp only [List.length_append, List.length_cons, List.length_nil] at hlen; omega
 have hl1 : (bs ++ Lib.strCells (S ++ ⟨#[32, 100, 105, 118, 105, 100, 101, 115, 32]⟩)).length + (termB t false).length ≤ 140737488355328 := by rw [List.length_append, Lib.strCells_length]; simp only [List.length_append, List.length_cons, List.length_nil] at hlen; omega
 have hcat : ¬ (9223372036854775807 < S.size + (⟨#[32, 100, 105, 118, 105, 100, 101, 115, 32]⟩ : ByteArray).size) := by have : (⟨#[32, 100, 105, 118, 105, 100, 101, 115, 32]⟩ : ByteArray).size = 9 := rfl; omega
 have hcat2 : ¬ (9223372036854775807 < S.size + 9) := by omega
 have HNT := Lib.hid (fun (w : World) (h : SlR w R A2 c2 m) => hS ▸ num_text h hml)
 have HS2 := Lib.hid hs2
 have HR := Lib.hid hR
 have IH := Lib.hid ih
 have H6 := Lib.hid h6
 have HI := Lib.hid hI0
 have HL1 := Lib.hid hl1
 clear hsz hlen hS hs2 hR ih h6 hI0 hk hl1 hsz2
 rw [Lib.byteCells_append, ← List.append_assoc, ← HSC.out]
 unfold tv
 simp only [List.length_nil, List.length_cons, Nat.zero_add]
 go_enter Tryz.func80, Tryz.ntmps80
 go_upto_region 8 with (fail)
 obtain ⟨W, hW, ps, hbW⟩ := made_blk w #[.int .i64 15, .string ⟨#[]⟩, .slice A1 0 c1, .bool false, .slice A2 m.length c2, .slice (some ⟨kb, ko, none⟩) 1 c3] 28
 obtain ⟨g, hg⟩ : ∃ g, g = w.heap.size := ⟨_, rfl⟩
 have HB : Hid (Lib.IsBuilder TW TB B b bs W) := Lib.hid (hW ▸ isB_alloc hIs _)
 have HK : Hid (Lib.OthersKept TB (some b) w W) := Lib.hid (hW ▸ (Lib.OthersKept.refl TB (some b) w).alloc _)
 have hBW : B ≤ W.heap.size := Nat.le_trans hBw hbW.size
 have HBW := Lib.hid (hbW.mono hBw)
 have HS3 := Lib.hid (HS2.out.under HR.out HBW.out)
 rw [← hW, ← hg]
 rw [← hg] at ps
 have hgb : g ≠ b := by
  have : b < w.heap.size := by rcases hIs with h' | h' <;> exact h'.lt
  omega
 clear hW hbW hIs hBw hg
 obtain ⟨x0, x1, x2, x3, x4, x5⟩ := ps.six
 refine wp_region_held_drew (S := fun w' => w'.cell? ⟨g, 3, none⟩ = some (.bool false) ∧ w'.cell? ⟨g, 4, none⟩ = some (.slice A2 m.length c2)) (by kernel_rfl) (by exact ⟨x3, x4⟩) (fun hHeld => ?_)
 refine take_at 0 (by kernel_rfl) (by kernel_rfl) (by kernel_rfl) (fun _ _ d _ _ h => by cases d <;> exact h) ⟨_, rfl⟩ (by assumption) (fun o ho => ?_)
 simp only [zg1, zg3, zg4] at ho
 subst ho
 refine ⟨?_, ⟨by rfl, ?_⟩, ?_⟩
 rotate_left
 · intro w hSw
   (try dsimp only at hSw)
   obtain ⟨hS1, hS2⟩ := hSw
   (go_simp; try with_reducible rfl)
 (try simp only [Act.put, zs1, zs2, zs3])
 refine take_at 1 (by kernel_rfl) (by kernel_rfl) (by kernel_rfl) (fun _ _ d _ _ h => by cases d <;> exact h) ⟨_, rfl⟩ (by assumption) (fun o ho => ?_)
 simp only [zg1, zg2, zg3, zg4] at ho
 subst ho
 refine ⟨?_, ⟨by rfl, ?_⟩, ?_⟩
 rotate_left
 · intro w hSw
   (try dsimp only at hSw)
   obtain ⟨hS1, hS2⟩ := hSw
   (go_simp; try with_reducible rfl)
 (try simp only [Act.put, zs1, zs2, zs3])
 refine take_at 2 (by kernel_rfl) (by kernel_rfl) (by kernel_rfl) (fun _ _ d _ _ h => by cases d <;> exact h) ⟨_, rfl⟩ (by assumption) (fun o ho => ?_)
 simp only [zg1, zg2, zg3, zg4] at ho
 subst ho
 refine ⟨?_, ⟨by rfl, ?_⟩, ?_⟩
 rotate_left
 · intro w hSw
   (try dsimp only at hSw)
   obtain ⟨hS1, hS2⟩ := hSw
   (go_simp; try with_reducible rfl)
 (try simp only [Act.put, zs1, zs2, zs3])
 refine take_at 3 (by kernel_rfl) (by kernel_rfl) (by kernel_rfl) (fun _ _ d _ _ h => by cases d <;> exact h) ⟨_, rfl⟩ (by assumption) (fun o ho => ?_)
 simp only [zg1, zg2, zg3, zg4] at ho
 subst ho
 refine ⟨?_, ⟨by rfl, ?_⟩, ?_⟩
 rotate_left
 · intro w hSw
   (try dsimp only at hSw)
   obtain ⟨hS1, hS2⟩ := hSw
   (go_simp; try with_reducible rfl)
 (try simp only [Act.put, zs1, zs2, zs3])
 refine take_at 4 (by kernel_rfl) (by kernel_rfl) (by kernel_rfl) (fun _ _ d _ _ h => by cases d <;> exact h) ⟨_, rfl⟩ (by assumption) (fun o ho => ?_)
 simp only [zg1, zg2, zg3, zg4] at ho
 subst ho
 refine ⟨?_, ⟨by rfl, ?_⟩, ?_⟩
 rotate_left
 · intro w hSw
   (try dsimp only at hSw)
   obtain ⟨hS1, hS2⟩ := hSw
   (go_simp; try with_reducible rfl)
 (try simp only [Act.put, zs1, zs2, zs3])
 refine wpAnyH_ready (rs := [5]) (by kernel_rfl) (by simp) ?_
 refine ready_at 5 ⟨_, rfl⟩ (fun o ho K hK => ?_) AllReadyH.nil
 simp only [zg1, zg2, zg3, zg4] at ho
 subst ho
 go_simp
 go_at_call 114
 refine (HNT.out W.drew (HS3.out.keep (fun _ _ _ h => h) (fun _ h => h))).mono ?_
 rintro e w1 ⟨rfl, hb1⟩
 have hB1 : B ≤ w1.heap.size := Nat.le_trans hBW hb1.size
 have HB1 := Lib.hid (isB_below (show Lib.IsBuilder TW TB B b bs W.drew from HB.out) hb1)
 have HBW1 := Lib.hid ((HBW.out.drew).trans (hb1.mono hBW))
 have HK1 := Lib.hid ((HK.out.drew).trans (ok_below hb1))
 have pg1 : Blk w1 g 28 #[.int .i64 15, .string ⟨#[]⟩, .slice A1 0 c1, .bool false, .slice A2 m.length c2, .slice (some ⟨kb, ko, none⟩) 1 c3] := ok_below hb1 g _ ps (by simpa using hgb) (fun c fz e => by injection e with _ e _; exact absurd e (by decide))
 clear hb1
 refine hK.out _ _ ?_ (fun hHeld2 => ?_)
 · obtain ⟨_, _, _, y3, y4, _⟩ := pg1.six
   exact ⟨y3, y4⟩
 replace hHeld := hHeld2
 clear hK K hHeld2
 (try simp only [zs1, zs2, zs3])
 refine take_at 6 (by kernel_rfl) (by kernel_rfl) (by kernel_rfl) (fun _ _ d _ _ h => by cases d <;> exact h) ⟨_, rfl⟩ (by assumption) (fun o ho => ?_)
 simp only [zg1, zg2, zg3, zg4] at ho
 subst ho
 refine ⟨?_, ⟨by rfl, ?_⟩, ?_⟩
 rotate_left
 · intro w hSw
   (try dsimp only at hSw)
   obtain ⟨hS1, hS2⟩ := hSw
   (go_simp; try with_reducible rfl)
 (try simp only [Act.put, zs1, zs2, zs3])
 refine wpAnyH_ready (rs := [7]) (by kernel_rfl) (by simp) ?_
 refine ready_at 7 ⟨_, rfl⟩ (fun o ho K hK => ?_) AllReadyH.nil
 simp only [zg1, zg2, zg3, zg4] at ho
 subst ho
 go_simp
 go_at_call 78
 refine (wstr_w B b bs _ w1 HB1.out ?_ hB1).mono ?_
 · exact hlS
 rintro e w2 ⟨rfl, h2, hb2, hk2⟩
 have pg2 : Blk w2 g 28 #[.int .i64 15, .string ⟨#[]⟩, .slice A1 0 c1, .bool false, .slice A2 m.length c2, .slice (some ⟨kb, ko, none⟩) 1 c3] := hk2 g _ pg1 (by simpa using hgb) (fun c fz e => by injection e with _ e _; exact absurd e (by decide))
 have HBB := Lib.hid ((HBW1.out).trans hb2)
 have HK2 := Lib.hid ((HK1.out).trans hk2)
 have hB2 : B ≤ w2.heap.size := Nat.le_trans hB1 hb2.size
 have H2 := Lib.hid h2
 clear h2 hb2 hk2
 refine hK.out _ _ ?_ (fun hHeld2 => ?_)
 · obtain ⟨_, _, _, y3, y4, _⟩ := pg2.six
   exact ⟨y3, y4⟩
 replace hHeld := hHeld2
 clear hK K hHeld2
 (try simp only [zs1, zs2, zs3])
 refine wpAnyH_done (by kernel_rfl) ?_ _
 clear hHeld x0 x1 x2 x3 x4 x5
 have HI1 := Lib.hid (HI.out.under HR.out HBB.out)
 obtain ⟨y0, y1, y2, y3, y4, y5⟩ := H6.out.keep (fun p v hp hc => (HBB.out.cell (by rw [hp]; exact hkB)).trans hc)
 obtain ⟨x0, x1, x2, x3, x4, x5⟩ := pg2.six
 clear ps pg1 pg2
 go_wp2_with (go_at_call 115; refine (IH.out B b (bs ++ Lib.strCells (S ++ ⟨#[32, 100, 105, 118, 105, 100, 101, 115, 32]⟩)) false _ R _ HI1.out HR.out (.inr H2.out) HL1.out hB2).mono ?_; rintro e w3 ⟨rfl, h3, hb3, hk3⟩)
 refine bodyPost_ret (results_none rfl _ _ _) rfl ?_
 exact ⟨rfl, h3, HBB.out.trans hb3, HK2.out.trans hk3⟩
end
section
open Go.RowKit
open Go.Shelf
attribute [local go_sem] Oper.semAt_some
abbrev ta (k : Int) (nm : ByteArray) (A1 : Option Addr) (n1 c1 : Nat) (ng : Bool) (A2 : Option Addr) (n2 c2 : Nat) (A3 : Option Addr) (n3 c3 : Nat) : Array Value :=
 #[.int .i64 k, .string nm, .slice A1 n1 c1, .bool ng, .slice A2 n2 c2, .slice A3 n3 c3]
set_option maxHeartbeats 800000 in
set_option maxRecDepth 100000 in
theorem level_9 (nm : ByteArray) (A1 : Option Addr) (n1 c1 : Nat) (ng : Bool) (A2 : Option Addr) (n2 c2 : Nat) (A3 : Option Addr) (n3 c3 : Nat) (w : World) :
    Calls Tryz.prog 75 #[.agg (ta 9 nm A1 n1 c1 ng A2 n2 c2 A3 n3 c3)] w fun e w' => e = .returned (.int .i64 6) ∧ Below w.heap.size w w' := by
  go_enter Tryz.func75, Tryz.ntmps75
  go_wp2_with fail
  go_ret
  exact ⟨rfl, below_alloc1 _ _⟩
set_option maxHeartbeats 800000 in
set_option maxRecDepth 100000 in
theorem level_15 (nm : ByteArray) (A1 : Option Addr) (n1 c1 : Nat) (ng : Bool) (A2 : Option Addr) (n2 c2 : Nat) (A3 : Option Addr) (n3 c3 : Nat) (w : World) :
    Calls Tryz.prog 75 #[.agg (ta 15 nm A1 n1 c1 ng A2 n2 c2 A3 n3 c3)] w fun e w' => e = .returned (.int .i64 6) ∧ Below w.heap.size w w' := by
  go_enter Tryz.func75, Tryz.ntmps75
  go_wp2_with fail
  go_ret
  exact ⟨rfl, below_alloc1 _ _⟩
set_option maxHeartbeats 800000 in
set_option maxRecDepth 100000 in
theorem level_16 (nm : ByteArray) (A1 : Option Addr) (n1 c1 : Nat) (ng : Bool) (A2 : Option Addr) (n2 c2 : Nat) (A3 : Option Addr) (n3 c3 : Nat) (w : World) :
    Calls Tryz.prog 75 #[.agg (ta 16 nm A1 n1 c1 ng A2 n2 c2 A3 n3 c3)] w fun e w' => e = .returned (.int .i64 5) ∧ Below w.heap.size w w' := by
  go_enter Tryz.func75, Tryz.ntmps75
  go_wp2_with fail
  go_ret
  exact ⟨rfl, below_alloc1 _ _⟩
set_option maxHeartbeats 800000 in
set_option maxRecDepth 100000 in
theorem level_18 (nm : ByteArray) (A1 : Option Addr) (n1 c1 : Nat) (ng : Bool) (A2 : Option Addr) (n2 c2 : Nat) (A3 : Option Addr) (n3 c3 : Nat) (w : World) :
    Calls Tryz.prog 75 #[.agg (ta 18 nm A1 n1 c1 ng A2 n2 c2 A3 n3 c3)] w fun e w' => e = .returned (.int .i64 3) ∧ Below w.heap.size w w' := by
  go_enter Tryz.func75, Tryz.ntmps75
  go_wp2_with fail
  go_ret
  exact ⟨rfl, below_alloc1 _ _⟩
set_option maxHeartbeats 800000 in
set_option maxRecDepth 100000 in
theorem level_21 (nm : ByteArray) (A1 : Option Addr) (n1 c1 : Nat) (ng : Bool) (A2 : Option Addr) (n2 c2 : Nat) (A3 : Option Addr) (n3 c3 : Nat) (w : World) :
    Calls Tryz.prog 75 #[.agg (ta 21 nm A1 n1 c1 ng A2 n2 c2 A3 n3 c3)] w fun e w' => e = .returned (.int .i64 5) ∧ Below w.heap.size w w' := by
  go_enter Tryz.func75, Tryz.ntmps75
  go_wp2_with fail
  go_ret
  exact ⟨rfl, below_alloc1 _ _⟩
end
section
open Go.RowKit
open Go.Shelf
attribute [local go_sem] Oper.semAt_some
def formB (least : Nat) (last : Bool) (t : T) : List UInt8 := P.bytes (P.wrap least last (P.pt t))
def bodyB (last : Bool) (t : T) : List UInt8 := P.bytes (P.body t last)
def FormW (t : T) : Prop := ∀ (B b : Nat) (bs : List Value) (least : Nat) (last : Bool) (w : World) (R : Nat → Prop) (v : Value), least ≤ 5 → T.In w R t v → (∀ g, R g → g < B) → Lib.IsBuilder TW TB B b bs w →
    bs.length + (formB least last t).length ≤ 140737488355328 → B ≤ w.heap.size →
    Calls Tryz.prog 43 #[.pointer (some ⟨b, 0, none⟩), v, .int .i64 (least : Nat), .bool last] w fun e w' => e = .returned (.tuple #[]) ∧ (Lib.BuilderAt TW TB B b (.pointer (some ⟨b, 0, none⟩)) (bs ++ Lib.byteCells (formB least last t)) w' ∧ Below B w w' ∧ Lib.OthersKept TB (some b) w w')
def BodyW (t : T) : Prop := ∀ (B b : Nat) (bs : List Value) (least : Nat) (last : Bool) (w : World) (R : Nat → Prop) (v : Value), least ≤ 5 → ¬ (P.level t.k < least ∨ (P.binds t.k = true ∧ last = false)) → T.In w R t v → (∀ g, R g → g < B) → Lib.IsBuilder TW TB B b bs w →
    bs.length + (bodyB last t).length ≤ 140737488355328 → B ≤ w.heap.size →
    Calls Tryz.prog 43 #[.pointer (some ⟨b, 0, none⟩), v, .int .i64 (least : Nat), .bool last] w fun e w' => e = .returned (.tuple #[]) ∧ (Lib.BuilderAt TW TB B b (.pointer (some ⟨b, 0, none⟩)) (bs ++ Lib.byteCells (bodyB last t)) w' ∧ Below B w w' ∧ Lib.OthersKept TB (some b) w w')
theorem formB_body {least : Nat} {last : Bool} {t : T} (h : ¬ (P.level t.k < least ∨ (P.binds t.k = true ∧ last = false))) : formB least last t = bodyB last t := by
 unfold formB P.wrap
 rw [if_neg (by exact h)]
 rfl
theorem formB_par {least : Nat} {last : Bool} {t : T} (h : P.level t.k < least ∨ (P.binds t.k = true ∧ last = false)) : formB least last t = 40 :: (bodyB true t ++ [41]) := by
 unfold formB P.wrap
 rw [if_pos (by exact h)]
 unfold P.par
 rw [P.bytes_cons, P.bytes_append, P.bytes_cons]
 rfl
theorem below_IsB {B b : Nat} {bs : List Value} {w : World} (h : Lib.IsBuilder TW TB B b bs w) : b < w.heap.size := by rcases h with h | h <;> exact h.lt
set_option maxHeartbeats 3200000 in
set_option maxRecDepth 100000 in
theorem form_par_18 (t : T) (hk : t.k = 18) (hw : BodyW t) (B b : Nat) (bs : List Value) (least : Nat) (hl : 3 < least) (last : Bool) (w : World) (R : Nat → Prop) (v : Value) (h : T.In w R t v) (hR : ∀ g, R g → g < B) (hIs : Lib.IsBuilder TW TB B b bs w)
    (hlen : bs.length + (bodyB true t).length + 2 ≤ 140737488355328) (hBw : B ≤ w.heap.size) :
    Calls Tryz.prog 43 #[.pointer (some ⟨b, 0, none⟩), v, .int .i64 (least : Nat), .bool last] w fun e w' => e = .returned (.tuple #[]) ∧ (Lib.BuilderAt TW TB B b (.pointer (some ⟨b, 0, none⟩)) (((bs ++ [Value.int .u8 40]) ++ Lib.byteCells (bodyB true t)) ++ [Value.int .u8 41]) w' ∧ Below B w w' ∧ Lib.OthersKept TB (some b) w w') := by
  have HW := Lib.hid hw
  have hnp : ¬ (P.level t.k < 1 ∨ (P.binds t.k = true ∧ true = false)) := by rw [hk]; decide
  have HNP := Lib.hid hnp
  clear hw hnp
  have d1 : decide ((3 : Int) < (least : Int)) = true := by simp; omega
  have hIn := h
  obtain ⟨A1, c1, A2, c2, A3, c3, rfl, _⟩ := h.form
  obtain ⟨nm, hnm⟩ : ∃ x, t.nm = x := ⟨_, rfl⟩
  obtain ⟨ng, hng⟩ : ∃ x, t.ng = x := ⟨_, rfl⟩
  obtain ⟨n1, hn1⟩ : ∃ x, t.ns.length = x := ⟨_, rfl⟩
  obtain ⟨n2, hn2⟩ : ∃ x, t.mg.length = x := ⟨_, rfl⟩
  obtain ⟨n3, hn3⟩ : ∃ x, t.ks.length = x := ⟨_, rfl⟩
  rw [hk, hnm, hng, hn1, hn2, hn3] at hIn ⊢
  clear h hnm hng hn1 hn2 hn3
  unfold tv at hIn ⊢
  go_enter Tryz.func43, Tryz.ntmps43
  go_upto_region 1 with (fail)
  obtain ⟨W, hW, ps, hbW⟩ := made_blk w #[.int .i64 18, .string nm, .slice A1 n1 c1, .bool ng, .slice A2 n2 c2, .slice A3 n3 c3] 28
  obtain ⟨g, hg⟩ : ∃ g, g = w.heap.size := ⟨_, rfl⟩
  have HB : Hid (Lib.IsBuilder TW TB B b bs W) := Lib.hid (hW ▸ isB_alloc hIs _)
  have HK : Hid (Lib.OthersKept TB (some b) w W) := Lib.hid (hW ▸ (Lib.OthersKept.refl TB (some b) w).alloc _)
  have hBW : B ≤ W.heap.size := Nat.le_trans hBw hbW.size
  have HBW := Lib.hid (hbW.mono hBw)
  have HI1 := Lib.hid (hIn.under hR (hbW.mono hBw))
  have HR := Lib.hid hR
  rw [← hW, ← hg]
  rw [← hg] at ps
  have hgb : g ≠ b := by have := below_IsB hIs; omega
  clear hW hbW hIs hBw hg hIn hR
  obtain ⟨x0, x1, x2, x3, x4, x5⟩ := ps.six
  go_upto_region 3 with (go_at_call 75; refine (level_18 nm A1 n1 c1 ng A2 n2 c2 A3 n3 c3 W).mono ?_; rintro e w1 ⟨rfl, hb1⟩; have pg1 : Blk w1 g 28 #[.int .i64 18, .string nm, .slice A1 n1 c1, .bool ng, .slice A2 n2 c2, .slice A3 n3 c3] := ok_below hb1 g _ ps (by simpa using hgb) (fun c fz e => by injection e with _ e _; exact absurd e (by decide)); have HB1 := Lib.hid (isB_below HB.out hb1); have HBW1 := Lib.hid (HBW.out.trans (hb1.mono hBW)); have HK1 := Lib.hid (HK.out.trans (ok_below hb1)); have hB1 : B ≤ w1.heap.size := Nat.le_trans hBW hb1.size; have HI2 := Lib.hid (HI1.out.under HR.out (hb1.mono hBW)); clear x0 x1 x2 x3 x4 x5 hb1; obtain ⟨x0, x1, x2, x3, x4, x5⟩ := pg1.six)
  go_upto_region 4 with (go_at_call 76; refine (wbyte_w B b bs 40 _ HB1.out (by omega) hB1).mono ?_; rintro e w2 ⟨rfl, h2, hb2, hk2⟩)
  have pg2 : Blk w2 g 28 #[.int .i64 18, .string nm, .slice A1 n1 c1, .bool ng, .slice A2 n2 c2, .slice A3 n3 c3] := hk2 g _ pg1 (by simpa using hgb) (fun c fz e => by injection e with _ e _; exact absurd e (by decide))
  have HBW2 := Lib.hid (HBW1.out.trans hb2)
  have HK2 := Lib.hid (HK1.out.trans hk2)
  have hB2 : B ≤ w2.heap.size := Nat.le_trans hB1 hb2.size
  have HI3 := Lib.hid (HI2.out.under HR.out hb2)
  have H2 := Lib.hid h2
  have hl2 : (bs ++ [Value.int .u8 40]).length + (bodyB true t).length ≤ 140737488355328 := by rw [List.length_append]; simp only [List.length_cons, List.length_nil]; omega
  have hl3 : ((bs ++ [Value.int .u8 40]) ++ Lib.byteCells (bodyB true t)).length + 1 ≤ 140737488355328 := by rw [List.length_append, List.length_append, Lib.byteCells_length]; simp only [List.length_cons, List.length_nil]; omega
  clear x0 x1 x2 x3 x4 x5 h2 hb2 hk2 ps pg1
  obtain ⟨x0, x1, x2, x3, x4, x5⟩ := pg2.six
  go_upto_region 5 with (go_at_call 43; refine (HW.out B b (bs ++ [Value.int .u8 40]) 1 true _ R _ (by decide) HNP.out HI3.out HR.out (.inr H2.out) hl2 hB2).mono ?_; rintro e w3 ⟨rfl, h3, hb3, hk3⟩)
  go_wp2_with (go_at_call 76; refine (wbyte_w B b _ 41 _ (.inr h3) hl3 (Nat.le_trans hB2 hb3.size)).mono ?_; rintro e w4 ⟨rfl, h4, hb4, hk4⟩)
  refine bodyPost_ret (results_none rfl _ _ _) rfl ?_
  exact ⟨rfl, h4, (HBW2.out.trans hb3).trans hb4, (HK2.out.trans hk3).trans hk4⟩
set_option maxHeartbeats 3200000 in
set_option maxRecDepth 100000 in
theorem form_par_21 (t : T) (hk : t.k = 21) (hw : BodyW t) (B b : Nat) (bs : List Value) (least : Nat) (hl : least ≤ 5)  (w : World) (R : Nat → Prop) (v : Value) (h : T.In w R t v) (hR : ∀ g, R g → g < B) (hIs : Lib.IsBuilder TW TB B b bs w)
    (hlen : bs.length + (bodyB true t).length + 2 ≤ 140737488355328) (hBw : B ≤ w.heap.size) :
    Calls Tryz.prog 43 #[.pointer (some ⟨b, 0, none⟩), v, .int .i64 (least : Nat), .bool false] w fun e w' => e = .returned (.tuple #[]) ∧ (Lib.BuilderAt TW TB B b (.pointer (some ⟨b, 0, none⟩)) (((bs ++ [Value.int .u8 40]) ++ Lib.byteCells (bodyB true t)) ++ [Value.int .u8 41]) w' ∧ Below B w w' ∧ Lib.OthersKept TB (some b) w w') := by
  have HW := Lib.hid hw
  have hnp : ¬ (P.level t.k < 1 ∨ (P.binds t.k = true ∧ true = false)) := by rw [hk]; decide
  have HNP := Lib.hid hnp
  clear hw hnp
  have d1 : decide ((5 : Int) < (least : Int)) = false := by simp; omega
  have hIn := h
  obtain ⟨A1, c1, A2, c2, A3, c3, rfl, _⟩ := h.form
  obtain ⟨nm, hnm⟩ : ∃ x, t.nm = x := ⟨_, rfl⟩
  obtain ⟨ng, hng⟩ : ∃ x, t.ng = x := ⟨_, rfl⟩
  obtain ⟨n1, hn1⟩ : ∃ x, t.ns.length = x := ⟨_, rfl⟩
  obtain ⟨n2, hn2⟩ : ∃ x, t.mg.length = x := ⟨_, rfl⟩
  obtain ⟨n3, hn3⟩ : ∃ x, t.ks.length = x := ⟨_, rfl⟩
  rw [hk, hnm, hng, hn1, hn2, hn3] at hIn ⊢
  clear h hnm hng hn1 hn2 hn3
  unfold tv at hIn ⊢
  go_enter Tryz.func43, Tryz.ntmps43
  go_upto_region 1 with (fail)
  obtain ⟨W, hW, ps, hbW⟩ := made_blk w #[.int .i64 21, .string nm, .slice A1 n1 c1, .bool ng, .slice A2 n2 c2, .slice A3 n3 c3] 28
  obtain ⟨g, hg⟩ : ∃ g, g = w.heap.size := ⟨_, rfl⟩
  have HB : Hid (Lib.IsBuilder TW TB B b bs W) := Lib.hid (hW ▸ isB_alloc hIs _)
  have HK : Hid (Lib.OthersKept TB (some b) w W) := Lib.hid (hW ▸ (Lib.OthersKept.refl TB (some b) w).alloc _)
  have hBW : B ≤ W.heap.size := Nat.le_trans hBw hbW.size
  have HBW := Lib.hid (hbW.mono hBw)
  have HI1 := Lib.hid (hIn.under hR (hbW.mono hBw))
  have HR := Lib.hid hR
  rw [← hW, ← hg]
  rw [← hg] at ps
  have hgb : g ≠ b := by have := below_IsB hIs; omega
  clear hW hbW hIs hBw hg hIn hR
  obtain ⟨x0, x1, x2, x3, x4, x5⟩ := ps.six
  go_upto_region 3 with (go_at_call 75; refine (level_21 nm A1 n1 c1 ng A2 n2 c2 A3 n3 c3 W).mono ?_; rintro e w1 ⟨rfl, hb1⟩; have pg1 : Blk w1 g 28 #[.int .i64 21, .string nm, .slice A1 n1 c1, .bool ng, .slice A2 n2 c2, .slice A3 n3 c3] := ok_below hb1 g _ ps (by simpa using hgb) (fun c fz e => by injection e with _ e _; exact absurd e (by decide)); have HB1 := Lib.hid (isB_below HB.out hb1); have HBW1 := Lib.hid (HBW.out.trans (hb1.mono hBW)); have HK1 := Lib.hid (HK.out.trans (ok_below hb1)); have hB1 : B ≤ w1.heap.size := Nat.le_trans hBW hb1.size; have HI2 := Lib.hid (HI1.out.under HR.out (hb1.mono hBW)); clear x0 x1 x2 x3 x4 x5 hb1; obtain ⟨x0, x1, x2, x3, x4, x5⟩ := pg1.six)
  go_upto_region 4 with (go_at_call 76; refine (wbyte_w B b bs 40 _ HB1.out (by omega) hB1).mono ?_; rintro e w2 ⟨rfl, h2, hb2, hk2⟩)
  have pg2 : Blk w2 g 28 #[.int .i64 21, .string nm, .slice A1 n1 c1, .bool ng, .slice A2 n2 c2, .slice A3 n3 c3] := hk2 g _ pg1 (by simpa using hgb) (fun c fz e => by injection e with _ e _; exact absurd e (by decide))
  have HBW2 := Lib.hid (HBW1.out.trans hb2)
  have HK2 := Lib.hid (HK1.out.trans hk2)
  have hB2 : B ≤ w2.heap.size := Nat.le_trans hB1 hb2.size
  have HI3 := Lib.hid (HI2.out.under HR.out hb2)
  have H2 := Lib.hid h2
  have hl2 : (bs ++ [Value.int .u8 40]).length + (bodyB true t).length ≤ 140737488355328 := by rw [List.length_append]; simp only [List.length_cons, List.length_nil]; omega
  have hl3 : ((bs ++ [Value.int .u8 40]) ++ Lib.byteCells (bodyB true t)).length + 1 ≤ 140737488355328 := by rw [List.length_append, List.length_append, Lib.byteCells_length]; simp only [List.length_cons, List.length_nil]; omega
  clear x0 x1 x2 x3 x4 x5 h2 hb2 hk2 ps pg1
  obtain ⟨x0, x1, x2, x3, x4, x5⟩ := pg2.six
  go_upto_region 5 with (go_at_call 43; refine (HW.out B b (bs ++ [Value.int .u8 40]) 1 true _ R _ (by decide) HNP.out HI3.out HR.out (.inr H2.out) hl2 hB2).mono ?_; rintro e w3 ⟨rfl, h3, hb3, hk3⟩)
  go_wp2_with (go_at_call 76; refine (wbyte_w B b _ 41 _ (.inr h3) hl3 (Nat.le_trans hB2 hb3.size)).mono ?_; rintro e w4 ⟨rfl, h4, hb4, hk4⟩)
  refine bodyPost_ret (results_none rfl _ _ _) rfl ?_
  exact ⟨rfl, h4, (HBW2.out.trans hb3).trans hb4, (HK2.out.trans hk3).trans hk4⟩
end
section
open Go.RowKit
open Go.Shelf
attribute [local go_sem] Oper.semAt_some
def rowB (wd : ByteArray) (o : Nat) (last : Bool) (ks : List T) : List UInt8 := P.bytes (P.rowR wd o last (P.parts ks))
theorem rowB_cons (wd : ByteArray) (o : Nat) (last : Bool) (k : T) (ks : List T) : rowB wd o last (k :: ks) = (32 :: (wd.data.toList ++ [32])) ++ (formB o (last && ks.isEmpty) k ++ rowB wd o last ks) := by
 have e : (P.parts ks).isEmpty = ks.isEmpty := by
  cases ks with
  | nil => rfl
  | cons a b => rw [P.parts_cons]; rfl
 unfold rowB
 rw [P.parts_cons, P.rowR, P.bytes_cons, P.bytes_cons, P.bytes_cons, P.bytes_append, e]
 simp [P.itB, formB]
def restB (wd : ByteArray) (f o : Nat) (last : Bool) (l : List T) (i : Nat) : List UInt8 := if i = 0 then formB f false (l.getD 0 t0) ++ rowB wd o last l.tail else rowB wd o last (l.drop i)
theorem restB_0 (wd : ByteArray) (f o : Nat) (last : Bool) (l : List T) (h : 0 < l.length) : restB wd f o last l 0 = formB f false (l.getD 0 t0) ++ restB wd f o last l 1 := by
 unfold restB
 rw [if_pos rfl, if_neg (by decide)]
 cases l with
 | nil => simp at h
 | cons a b => rfl
theorem restB_s (wd : ByteArray) (f o : Nat) (last : Bool) (l : List T) (i : Nat) (h0 : 0 < i) (h : i < l.length) : restB wd f o last l i = (32 :: (wd.data.toList ++ [32])) ++ (formB o (last && decide (i + 1 = l.length)) (l.getD i t0) ++ restB wd f o last l (i + 1)) := by
 unfold restB
 rw [if_neg (by omega), if_neg (by omega)]
 have e : l.drop i = l.getD i t0 :: l.drop (i + 1) := by
  rw [List.drop_eq_getElem_cons h]
  simp [List.getD, h]
 have e2 : (l.drop (i + 1)).isEmpty = decide (i + 1 = l.length) := by
  rw [Bool.eq_iff_iff, List.isEmpty_iff, List.drop_eq_nil_iff, decide_eq_true_eq]
  omega
 rw [e, rowB_cons, e2]
theorem restB_n (wd : ByteArray) (f o : Nat) (last : Bool) (l : List T) (h : 0 < l.length) : restB wd f o last l l.length = [] := by
 unfold restB
 rw [if_neg (by omega), List.drop_length]
 rfl
theorem kid_form {w : World} {R : Nat → Prop} {u : T} {v0 v1 v2 v3 v4 v5 : Value} (h : T.In w R u (.agg #[v0, v1, v2, v3, v4, v5])) : ∃ B1 d1 m1 B2 d2 m2 B3 d3 m3 kk nm ng, v0 = .int .i64 kk ∧ v1 = .string nm ∧ v2 = .slice B1 m1 d1 ∧ v3 = .bool ng ∧ v4 = .slice B2 m2 d2 ∧ v5 = .slice B3 m3 d3 := by
 obtain ⟨B1, d1, B2, d2, B3, d3, e', _⟩ := h.form
 injection e' with e'
 injection e' with e'
 simp only [List.cons.injEq, and_true] at e'
 obtain ⟨h0, h1, h2, h3, h4, h5⟩ := e'
 exact ⟨B1, d1, _, B2, d2, _, B3, d3, _, _, _, _, h0, h1, h2, h3, h4, h5⟩
theorem in_formR {w : World} {R : Nat → Prop} {t : T} {v : Value} (h : T.In w R t v) : ∃ A1 c1 A2 c2 A3 c3, v = tv t.k t.nm A1 t.ns.length c1 t.ng A2 t.mg.length c2 A3 t.ks.length c3 ∧ StrL w R A1 c1 t.ns ∧ SlR w R A2 c2 t.mg ∧ t.ks.length ≤ c3 ∧ (0 < t.ks.length → ∃ b o, A3 = some ⟨b, o, none⟩ ∧ R b ∧ T.Ins w R b o t.ks) := by
 cases t
 rw [T.In] at h
 exact h
set_option maxHeartbeats 3200000 in
set_option maxRecDepth 100000 in
theorem row_w (t : T) (l : List T) (hl : t.ks = l) (hf : ∀ k ∈ l, FormW k) (h0 : 0 < l.length) (hbk : l.length ≤ 1048576) (wd word : ByteArray) (hword : word.data.toList = 32 :: (wd.data.toList ++ [32])) (f o : Nat) (hf5 : f ≤ 5) (ho5 : o ≤ 5) (last : Bool)
    (B b : Nat) (bs : List Value) (w : World) (R : Nat → Prop) (v : Value) (h : T.In w R t v) (hR : ∀ g, R g → g < B) (hIs : Lib.IsBuilder TW TB B b bs w)
    (TOT : List UInt8) (hT : restB wd f o last l 0 = TOT) (hlen : bs.length + TOT.length ≤ 140737488355328) (hBw : B ≤ w.heap.size) :
    Calls Tryz.prog 77 #[.pointer (some ⟨b, 0, none⟩), v, .string word, .int .i64 (f : Nat), .int .i64 (o : Nat), .bool last] w fun e w' => e = .returned (.tuple #[]) ∧ (Lib.BuilderAt TW TB B b (.pointer (some ⟨b, 0, none⟩)) (bs ++ Lib.byteCells TOT) w' ∧ Below B w w' ∧ Lib.OthersKept TB (some b) w w') := by
  obtain ⟨A1, c1, A2, c2, A3, c3, rfl, -, -, -, hkd⟩ := in_formR h
  rw [hl] at hkd ⊢
  obtain ⟨kb, ko, rfl, hRk, hI⟩ := hkd h0
  have hkB := hR kb hRk
  obtain ⟨nm, hnm⟩ : ∃ x, t.nm = x := ⟨_, rfl⟩
  obtain ⟨ng, hng⟩ : ∃ x, t.ng = x := ⟨_, rfl⟩
  obtain ⟨n1, hn1⟩ : ∃ x, t.ns.length = x := ⟨_, rfl⟩
  obtain ⟨n2, hn2⟩ : ∃ x, t.mg.length = x := ⟨_, rfl⟩
  obtain ⟨kk, hkk⟩ : ∃ x, t.k = x := ⟨_, rfl⟩
  rw [hnm, hng, hn1, hn2, hkk]
  clear hkd hnm hng hn1 hn2 hkk hRk h hl t
  have hwz : word.size = wd.size + 2 := by
   have : word.data.toList.length = word.size := Array.length_toList
   have h2 : wd.data.toList.length = wd.size := Array.length_toList
   rw [hword] at this
   simp only [List.length_cons, List.length_append, List.length_nil] at this
   omega
  have HWS : Hid (Lib.strCells word = Lib.byteCells (32 :: (wd.data.toList ++ [32]))) := Lib.hid (by rw [Lib.strCells_eq, hword])
  have hend := restB_n wd f o last l h0
  obtain ⟨n, hn⟩ : ∃ n, l.length = n := ⟨_, rfl⟩
  rw [hn] at h0 hbk hend ⊢
  obtain ⟨V, hV⟩ : ∃ V : World, V = w := ⟨_, rfl⟩
  have HI := Lib.hid hI
  have HR := Lib.hid hR
  have HF := Lib.hid hf
  have HN := Lib.hid hn
  have HIS := Lib.hid hIs
  have HT := Lib.hid hT
  have HE := Lib.hid hend
  have HWZ := Lib.hid hwz
  clear hI hR hf hn hT hend hwz
  have hbW := below_alloc1 w (.cells #[.int .i64 kk, .string nm, .slice A1 n1 c1, .bool ng, .slice A2 n2 c2, .slice (some ⟨kb, ko, none⟩) n c3] 28)
  have HB0 : Hid (Lib.IsBuilder TW TB B b bs (w.alloc (.cells #[.int .i64 kk, .string nm, .slice A1 n1 c1, .bool ng, .slice A2 n2 c2, .slice (some ⟨kb, ko, none⟩) n c3] 28))) := Lib.hid (isB_alloc hIs _)
  have HK0 := Lib.hid ((Lib.OthersKept.refl TB (some b) w).alloc (.cells #[.int .i64 kk, .string nm, .slice A1 n1 c1, .bool ng, .slice A2 n2 c2, .slice (some ⟨kb, ko, none⟩) n c3] 28))
  have HBW := Lib.hid (hbW.mono hBw)
  clear hIs hbW
  unfold tv
  cases last
  ·
   go_enter Tryz.func77, Tryz.ntmps77
   go_wp2_with fail
   go_loopg [22] (n + 1) (fun gk v22 wr => ∃ (i : Nat) (wrt : List UInt8), gk + i = n + 1 ∧ i ≤ n ∧ v22 = .int .i64 (i : Nat) ∧ wrt ++ restB wd f o false l i = TOT ∧ Lib.IsBuilder TW TB B b (bs ++ Lib.byteCells wrt) wr ∧ (0 < i → Lib.BuilderAt TW TB B b (.pointer (some ⟨b, 0, none⟩)) (bs ++ Lib.byteCells wrt) wr) ∧ Below B w wr ∧ Lib.OthersKept TB (some b) w wr)
   case atStart => exact ⟨0, [], by omega, Nat.zero_le _, rfl, HT.out, by simpa [Lib.byteCells] using HB0.out, fun h => by omega, HBW.out, HK0.out⟩
   case round =>
    obtain ⟨i, wrt, hi, hin, rfl, hw, hIs, hat, hbw, hok⟩ := hrel
    by_cases hlt : i < n
    ·
     obtain ⟨v0, v1, v2, v3, v4, v5, h6, hkI⟩ := T.Ins.get _ _ _ HI.out (by rw [HN.out]; exact hlt)
     have hfk := HF.out (l.getD i t0) (by rw [List.getD_eq_getElem?_getD, List.getElem?_eq_getElem (by rw [HN.out]; exact hlt)]; exact List.getElem_mem _)
     obtain ⟨k, hk⟩ : ∃ k, l.getD i t0 = k := ⟨_, rfl⟩
     rw [hk] at hkI hfk
     obtain ⟨B1, d1, m1, B2, d2v, m2, B3, d3, m3, kkk, nmk, ngk, rfl, rfl, rfl, rfl, rfl, rfl⟩ := kid_form hkI
     have hBr := Nat.le_trans hBw hbw.size
     obtain ⟨e0, e1, e2, e3, e4, e5⟩ := h6.keep (fun p v hp hc => (hbw.cell (by rw [hp]; exact hkB)).trans hc)
     obtain ⟨W, hW, ps, hbW⟩ := made_blk wr #[.int .i64 kkk, .string nmk, .slice B1 m1 d1, .bool ngk, .slice B2 m2 d2v, .slice B3 m3 d3] 28
     obtain ⟨g, hg⟩ : ∃ g, g = wr.heap.size := ⟨_, rfl⟩
     have HB : Hid (Lib.IsBuilder TW TB B b (bs ++ Lib.byteCells wrt) W) := Lib.hid (hW ▸ isB_alloc hIs _)
     have HK : Hid (Lib.OthersKept TB (some b) w W) := Lib.hid (hW ▸ hok.alloc _)
     have hBW : B ≤ W.heap.size := Nat.le_trans hBr hbW.size
     have HBW := Lib.hid (hbw.trans (hbW.mono hBr))
     have HKI := Lib.hid (hkI.under HR.out HBW.out)
     have HFK := Lib.hid hfk
     have HWT := Lib.hid hw
     have HIX := Lib.hid hk
     rw [← hg] at ps
     have hgb : g ≠ b := by have := below_IsB hIs; omega
     have hi0 : (0 : Int) ≤ i := by omega
     have hi1 : (i : Int) < n := by omega
     clear hbW hIs hbw hok hat h6 hkI hfk hw hk hBr
     have HW := Lib.hid hW
     have HG := Lib.hid hg
     clear hW hg
     rcases Nat.eq_zero_or_pos i with hz | hz
     ·
      subst hz
      simp only [Nat.zero_mul, Nat.add_zero] at e0 e1 e2 e3 e4 e5
      have hre := restB_0 wd f o false l (by rw [HN.out]; exact hlt)
      rw [HIX.out] at hre
      have hlw := HWT.out
      rw [hre] at hlw
      have hll := congrArg List.length hlw
      simp only [List.length_append] at hll
      have hl1 : (bs ++ Lib.byteCells wrt).length + (formB f false k).length ≤ 140737488355328 := by rw [List.length_append, Lib.byteCells_length]; omega
      have HLW := Lib.hid hlw
      clear hre hlw hll
      go_upto_region 8 with (fail)
      rw [← HW.out, ← HG.out]
      obtain ⟨x0, x1, x2, x3, x4, x5⟩ := ps.six
      clear e0 e1 e2 e3 e4 e5
      go_wp2_with (go_at_call 43; refine (HFK.out B b _ f false _ R _ hf5 HKI.out HR.out HB.out hl1 hBW).mono ?_; rintro e w3 ⟨rfl, h3, hb3, hk3⟩)
      have e4 : bs ++ Lib.byteCells (wrt ++ formB f false k) = bs ++ Lib.byteCells wrt ++ Lib.byteCells (formB f false k) := by rw [Lib.byteCells_append, List.append_assoc]
      rw [← e4] at h3
      go_roundg n
      case measure => omega
      case rel => exact ⟨1, wrt ++ formB f false k, by omega, by omega, rfl, by rw [List.append_assoc]; exact HLW.out, .inr h3, fun _ => h3, HBW.out.trans hb3, HK.out.trans hk3⟩
     ·
      have d0 : decide ((i : Int) > 0) = true := by simp; omega
      have d00 : decide ((0 : Int) < (i : Int)) = true := by simp; omega
      have hre := restB_s wd f o false l i hz (by rw [HN.out]; exact hlt)
      rw [HIX.out, HN.out, Bool.false_and] at hre
      skip
      have hlw := HWT.out
      rw [hre] at hlw
      have hll := congrArg List.length hlw
      simp only [List.length_append, List.length_cons, List.length_nil] at hll
      have hdl : wd.data.toList.length = wd.size := Array.length_toList
      have hwz2 := HWZ.out
      have hl1 : (bs ++ Lib.byteCells wrt).length + word.size ≤ 140737488355328 := by rw [List.length_append, Lib.byteCells_length]; omega
      have hl2 : ((bs ++ Lib.byteCells wrt) ++ Lib.strCells word).length + (formB o false k).length ≤ 140737488355328 := by rw [List.length_append, List.length_append, Lib.byteCells_length, Lib.strCells_length]; omega
      have HLW := Lib.hid hlw
      clear hre hlw hll hdl hwz2
      go_upto_region 6 with (fail)
      rw [← HW.out, ← HG.out]
      clear e0 e1 e2 e3 e4 e5
      go_upto_region 7 with (go_at_call 78; refine (wstr_w B b (bs ++ Lib.byteCells wrt) word _ HB.out hl1 hBW).mono ?_; rintro e w2 ⟨rfl, h2, hb2, hk2⟩)
      have pg : Blk w2 g 28 #[.int .i64 kkk, .string nmk, .slice B1 m1 d1, .bool ngk, .slice B2 m2 d2v, .slice B3 m3 d3] := hk2 g _ ps (by simpa using hgb) (fun c fz e => by injection e with _ e _; exact absurd e (by decide))
      have HBW2 := Lib.hid (HBW.out.trans hb2)
      have HK2 := Lib.hid (HK.out.trans hk2)
      have hB2 : B ≤ w2.heap.size := Nat.le_trans hBW hb2.size
      have HKI2 := Lib.hid (HKI.out.under HR.out hb2)
      have H2 := Lib.hid h2
      clear h2 hb2 hk2 ps
      obtain ⟨x0, x1, x2, x3, x4, x5⟩ := pg.six
      go_wp2_with (go_at_call 43; refine (HFK.out B b _ o false _ R _ ho5 HKI2.out HR.out (.inr H2.out) hl2 hB2).mono ?_; rintro e w3 ⟨rfl, h3, hb3, hk3⟩)
      have e4 : bs ++ Lib.byteCells (wrt ++ ((32 :: (wd.data.toList ++ [32])) ++ formB o false k)) = bs ++ Lib.byteCells wrt ++ Lib.strCells word ++ Lib.byteCells (formB o false k) := by rw [Lib.byteCells_append, Lib.byteCells_append, ← HWS.out, List.append_assoc, List.append_assoc]
      rw [← e4] at h3
      go_roundg (n - i)
      case measure => omega
      case rel => exact ⟨i + 1, wrt ++ ((32 :: (wd.data.toList ++ [32])) ++ formB o false k), by omega, by omega, by go_num, by rw [List.append_assoc, List.append_assoc]; exact HLW.out, .inr h3, fun _ => h3, HBW2.out.trans hb3, HK2.out.trans hk3⟩
    · obtain rfl : i = n := by omega
      have hwt := hw
      rw [HE.out, List.append_nil] at hwt
      subst hwt
      have hat := hat h0
      go_wp2_with fail
      go_end0
      exact ⟨rfl, hat, hbw, hok⟩
  ·
   go_enter Tryz.func77, Tryz.ntmps77
   go_wp2_with fail
   go_loopg [22] (n + 1) (fun gk v22 wr => ∃ (i : Nat) (wrt : List UInt8), gk + i = n + 1 ∧ i ≤ n ∧ v22 = .int .i64 (i : Nat) ∧ wrt ++ restB wd f o true l i = TOT ∧ Lib.IsBuilder TW TB B b (bs ++ Lib.byteCells wrt) wr ∧ (0 < i → Lib.BuilderAt TW TB B b (.pointer (some ⟨b, 0, none⟩)) (bs ++ Lib.byteCells wrt) wr) ∧ Below B w wr ∧ Lib.OthersKept TB (some b) w wr)
   case atStart => exact ⟨0, [], by omega, Nat.zero_le _, rfl, HT.out, by simpa [Lib.byteCells] using HB0.out, fun h => by omega, HBW.out, HK0.out⟩
   case round =>
    obtain ⟨i, wrt, hi, hin, rfl, hw, hIs, hat, hbw, hok⟩ := hrel
    by_cases hlt : i < n
    ·
     obtain ⟨v0, v1, v2, v3, v4, v5, h6, hkI⟩ := T.Ins.get _ _ _ HI.out (by rw [HN.out]; exact hlt)
     have hfk := HF.out (l.getD i t0) (by rw [List.getD_eq_getElem?_getD, List.getElem?_eq_getElem (by rw [HN.out]; exact hlt)]; exact List.getElem_mem _)
     obtain ⟨k, hk⟩ : ∃ k, l.getD i t0 = k := ⟨_, rfl⟩
     rw [hk] at hkI hfk
     obtain ⟨B1, d1, m1, B2, d2v, m2, B3, d3, m3, kkk, nmk, ngk, rfl, rfl, rfl, rfl, rfl, rfl⟩ := kid_form hkI
     have hBr := Nat.le_trans hBw hbw.size
     obtain ⟨e0, e1, e2, e3, e4, e5⟩ := h6.keep (fun p v hp hc => (hbw.cell (by rw [hp]; exact hkB)).trans hc)
     obtain ⟨W, hW, ps, hbW⟩ := made_blk wr #[.int .i64 kkk, .string nmk, .slice B1 m1 d1, .bool ngk, .slice B2 m2 d2v, .slice B3 m3 d3] 28
     obtain ⟨g, hg⟩ : ∃ g, g = wr.heap.size := ⟨_, rfl⟩
     have HB : Hid (Lib.IsBuilder TW TB B b (bs ++ Lib.byteCells wrt) W) := Lib.hid (hW ▸ isB_alloc hIs _)
     have HK : Hid (Lib.OthersKept TB (some b) w W) := Lib.hid (hW ▸ hok.alloc _)
     have hBW : B ≤ W.heap.size := Nat.le_trans hBr hbW.size
     have HBW := Lib.hid (hbw.trans (hbW.mono hBr))
     have HKI := Lib.hid (hkI.under HR.out HBW.out)
     have HFK := Lib.hid hfk
     have HWT := Lib.hid hw
     have HIX := Lib.hid hk
     rw [← hg] at ps
     have hgb : g ≠ b := by have := below_IsB hIs; omega
     have hi0 : (0 : Int) ≤ i := by omega
     have hi1 : (i : Int) < n := by omega
     clear hbW hIs hbw hok hat h6 hkI hfk hw hk hBr
     have HW := Lib.hid hW
     have HG := Lib.hid hg
     clear hW hg
     rcases Nat.eq_zero_or_pos i with hz | hz
     ·
      subst hz
      simp only [Nat.zero_mul, Nat.add_zero] at e0 e1 e2 e3 e4 e5
      have hre := restB_0 wd f o true l (by rw [HN.out]; exact hlt)
      rw [HIX.out] at hre
      have hlw := HWT.out
      rw [hre] at hlw
      have hll := congrArg List.length hlw
      simp only [List.length_append] at hll
      have hl1 : (bs ++ Lib.byteCells wrt).length + (formB f false k).length ≤ 140737488355328 := by rw [List.length_append, Lib.byteCells_length]; omega
      have HLW := Lib.hid hlw
      clear hre hlw hll
      go_upto_region 8 with (fail)
      rw [← HW.out, ← HG.out]
      obtain ⟨x0, x1, x2, x3, x4, x5⟩ := ps.six
      clear e0 e1 e2 e3 e4 e5
      go_wp2_with (go_at_call 43; refine (HFK.out B b _ f false _ R _ hf5 HKI.out HR.out HB.out hl1 hBW).mono ?_; rintro e w3 ⟨rfl, h3, hb3, hk3⟩)
      have e4 : bs ++ Lib.byteCells (wrt ++ formB f false k) = bs ++ Lib.byteCells wrt ++ Lib.byteCells (formB f false k) := by rw [Lib.byteCells_append, List.append_assoc]
      rw [← e4] at h3
      go_roundg n
      case measure => omega
      case rel => exact ⟨1, wrt ++ formB f false k, by omega, by omega, rfl, by rw [List.append_assoc]; exact HLW.out, .inr h3, fun _ => h3, HBW.out.trans hb3, HK.out.trans hk3⟩
     ·
      have d0 : decide ((i : Int) > 0) = true := by simp; omega
      have d00 : decide ((0 : Int) < (i : Int)) = true := by simp; omega
      have hre := restB_s wd f o true l i hz (by rw [HN.out]; exact hlt)
      rw [HIX.out, HN.out, Bool.true_and] at hre
      obtain ⟨q, hq⟩ : ∃ q, decide (i + 1 = n) = q := ⟨_, rfl⟩
      rw [hq] at hre
      have d2 : ((i : Int) == (n : Int) - 1) = q := by rw [← hq, Bool.eq_iff_iff, beq_iff_eq, decide_eq_true_eq]; omega
      clear hq
      have hlw := HWT.out
      rw [hre] at hlw
      have hll := congrArg List.length hlw
      simp only [List.length_append, List.length_cons, List.length_nil] at hll
      have hdl : wd.data.toList.length = wd.size := Array.length_toList
      have hwz2 := HWZ.out
      have hl1 : (bs ++ Lib.byteCells wrt).length + word.size ≤ 140737488355328 := by rw [List.length_append, Lib.byteCells_length]; omega
      have hl2 : ((bs ++ Lib.byteCells wrt) ++ Lib.strCells word).length + (formB o q k).length ≤ 140737488355328 := by rw [List.length_append, List.length_append, Lib.byteCells_length, Lib.strCells_length]; omega
      have HLW := Lib.hid hlw
      clear hre hlw hll hdl hwz2
      go_upto_region 6 with (fail)
      rw [← HW.out, ← HG.out]
      clear e0 e1 e2 e3 e4 e5
      go_upto_region 7 with (go_at_call 78; refine (wstr_w B b (bs ++ Lib.byteCells wrt) word _ HB.out hl1 hBW).mono ?_; rintro e w2 ⟨rfl, h2, hb2, hk2⟩)
      have pg : Blk w2 g 28 #[.int .i64 kkk, .string nmk, .slice B1 m1 d1, .bool ngk, .slice B2 m2 d2v, .slice B3 m3 d3] := hk2 g _ ps (by simpa using hgb) (fun c fz e => by injection e with _ e _; exact absurd e (by decide))
      have HBW2 := Lib.hid (HBW.out.trans hb2)
      have HK2 := Lib.hid (HK.out.trans hk2)
      have hB2 : B ≤ w2.heap.size := Nat.le_trans hBW hb2.size
      have HKI2 := Lib.hid (HKI.out.under HR.out hb2)
      have H2 := Lib.hid h2
      clear h2 hb2 hk2 ps
      obtain ⟨x0, x1, x2, x3, x4, x5⟩ := pg.six
      go_wp2_with (go_at_call 43; refine (HFK.out B b _ o q _ R _ ho5 HKI2.out HR.out (.inr H2.out) hl2 hB2).mono ?_; rintro e w3 ⟨rfl, h3, hb3, hk3⟩)
      have e4 : bs ++ Lib.byteCells (wrt ++ ((32 :: (wd.data.toList ++ [32])) ++ formB o q k)) = bs ++ Lib.byteCells wrt ++ Lib.strCells word ++ Lib.byteCells (formB o q k) := by rw [Lib.byteCells_append, Lib.byteCells_append, ← HWS.out, List.append_assoc, List.append_assoc]
      rw [← e4] at h3
      go_roundg (n - i)
      case measure => omega
      case rel => exact ⟨i + 1, wrt ++ ((32 :: (wd.data.toList ++ [32])) ++ formB o q k), by omega, by omega, by go_num, by rw [List.append_assoc, List.append_assoc]; exact HLW.out, .inr h3, fun _ => h3, HBW2.out.trans hb3, HK2.out.trans hk3⟩
    · obtain rfl : i = n := by omega
      have hwt := hw
      rw [HE.out, List.append_nil] at hwt
      subst hwt
      have hat := hat h0
      go_wp2_with fail
      go_end0
      exact ⟨rfl, hat, hbw, hok⟩
end
end Go.Proofs.YthiadenmljbdaaaGreatDoor

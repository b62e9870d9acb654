/-
  q: the parts WNum WMul WTerm WLeaf WCmp.
-/
import Derived.Test.YthiadenmljbdaaaGreatDoorB22q
import Derived.Test.YthiadenmljbdaaaGreatDoorB24q
namespace Go.Proofs.YthiadenmljbdaaaGreatDoor
section
open Go.RowKit
open Go.Shelf
theorem isB_below {B b : Nat} {bs : List Value} {w w' : World} (h : Lib.IsBuilder TW TB B b bs w) (hb : Below w.heap.size w w') : Lib.IsBuilder TW TB B b bs w' := by
 rcases h with h | h
 · have hl := h.lt
   obtain ⟨hB, v, hbk, hown, hne⟩ := h
   exact .inl ⟨hB, v, (hb.block b hl).trans hbk, hown.kept (gb_of_below hb none) (by cases hv : v.ownBlock <;> simp), hne⟩
 · have hl := h.lt
   obtain ⟨hB, v, hbk, hown, hne⟩ := h
   exact .inr ⟨hB, v, (hb.block b hl).trans hbk, hown.kept (gb_of_below hb none) (by cases hv : v.ownBlock <;> simp), hne⟩
theorem ok_below {b : Nat} {w w' : World} (hb : Below w.heap.size w w') : Lib.OthersKept TB (some b) w w' :=
 fun k _ hk _ _ => (hb.block k (Array.getElem?_eq_some_iff.1 hk).1).trans hk
theorem num_text {w : World} {R : Nat → Prop} {A : Option Addr} {c : Nat} {mg : List Nat} (h : SlR w R A c mg) (hl : mg.length ≤ 1099511627776) :
    Calls Tryz.prog 114 #[.agg #[.bool false, .slice A mg.length c]] w fun e w' => e = .returned (.string ⟨(N.txt (N.nv mg)).toArray⟩) ∧ Below w.heap.size w w' := by
  have hz : ztxt (N.nv mg : Int) = N.txt (N.nv mg) := by unfold ztxt; rw [if_neg (by omega)]; rfl
  rw [← hz]
  exact text_i (K := mg.length) ⟨false, N.nv mg, ⟨_, rfl, A, mg.length, c, mg, rfl, Pl.any A, h.1, rfl, Nat.le_refl _⟩, sgn_false _⟩ hl
theorem strCells_txt (x : Nat) : Lib.strCells ⟨(N.txt x).toArray⟩ = Lib.byteCells (N.txt x) := by simp [Lib.strCells, Lib.byteCells]
theorem SlR.under {w w' : World} {R : Nat → Prop} {A : Option Addr} {c : Nat} {l : List Nat} {B : Nat} (h : SlR w R A c l) (hR : ∀ g, R g → g < B) (hb : Below B w w') : SlR w' R A c l :=
 h.keep (fun _ _ hp hc => (hb.cell (hR _ hp)).trans hc) (fun _ h => h)
attribute [local go_sem] Oper.semAt_some
set_option maxHeartbeats 1600000 in
set_option maxRecDepth 100000 in
theorem term_num (m : List Nat) (hml : m.length ≤ 1099511627776) : TermW (.node 1 ⟨#[]⟩ [] false m []) := by
 intro B b bs tg w R v h hR hIs hlen hBw
 have e : termB (.node 1 ⟨#[]⟩ [] false m []) tg = N.txt (N.nv m) := by
  cases tg
  · show P.bytes [P.Nu m] = _
    simp [P.bytes, P.itB]
  · show P.bytes [P.Nu m] = _
    simp [P.bytes, P.itB]
 rw [e] at hlen ⊢
 clear e
 rw [T.In] at h
 obtain ⟨A1, c1, A2, c2, A3, c3, rfl, _, hs2, _⟩ := h
 obtain ⟨S, hS⟩ : ∃ S : ByteArray, S = ⟨(N.txt (N.nv m)).toArray⟩ := ⟨_, rfl⟩
 have hsz : S.size = (N.txt (N.nv m)).length := by rw [hS]; simp [ByteArray.size]
 have hlS : bs.length + S.size ≤ 140737488355328 := by omega
 have HSC : Hid (Lib.strCells S = Lib.byteCells (N.txt (N.nv m))) := Lib.hid (by rw [hS]; exact strCells_txt _)
 have HNT := Lib.hid (fun (w : World) (h : SlR w R A2 c2 m) => hS ▸ num_text h hml)
 have HS2 := Lib.hid hs2
 have HR := Lib.hid hR
 clear hsz hlen hS hs2 hR
 rw [← HSC.out]
 unfold tv
 simp only [List.length_nil]
 refine calls_of_wp_defers Tryz.func115 rfl ?_
 simp only [Tryz.ntmps115, List.size_toArray, List.length_cons, List.length_nil, Nat.reduceAdd, Nat.reduceSub, Array.replicate_succ, Array.replicate_zero, List.push_toArray, List.append_toArray, List.nil_append, List.cons_append]
 have HP := hp_term (fun e w' => e = .returned (.tuple #[]) ∧ (Lib.BuilderAt TW TB B b (.pointer (some ⟨b, 0, none⟩)) (bs ++ Lib.strCells S) w' ∧ Below B w w' ∧ Lib.OthersKept TB (some b) w w'))
 generalize hQ : bodyPostD Tryz.prog Tryz.f115 _ = Q at HP ⊢
 have HQ := Lib.hid hQ
 clear hQ
 go_upto_region 12 with (fail)
 obtain ⟨W, hW, ps, hbW⟩ := made_blk w #[.int .i64 1, .string ⟨#[]⟩, .slice A1 0 c1, .bool false, .slice A2 m.length c2, .slice A3 0 c3] 28
 obtain ⟨g, hg⟩ : ∃ g, g = w.heap.size := ⟨_, rfl⟩
 have HB : Hid (Lib.IsBuilder TW TB B b bs W) := Lib.hid (hW ▸ isB_alloc hIs _)
 have HK : Hid (Lib.OthersKept TB (some b) w W) := Lib.hid (hW ▸ (Lib.OthersKept.refl TB (some b) w).alloc _)
 have hBW : B ≤ W.heap.size := Nat.le_trans hBw hbW.size
 have HBW := Lib.hid (hbW.mono hBw)
 have HS3 := Lib.hid (HS2.out.under HR.out HBW.out)
 rw [← hW, ← hg]
 rw [← hg] at ps
 have hgb : g ≠ b := by
  have : b < w.heap.size := by rcases hIs with h' | h' <;> exact h'.lt
  omega
 clear hW hbW hIs hBw hg
 obtain ⟨x0, x1, x2, x3, x4, x5⟩ := ps.six
 refine wp_region_held_drew (S := fun w' => w'.cell? ⟨g, 3, none⟩ = some (.bool false) ∧ w'.cell? ⟨g, 4, none⟩ = some (.slice A2 m.length c2)) (by kernel_rfl) (by exact ⟨x3, x4⟩) (fun hHeld => ?_)
 refine take_at 0 (by kernel_rfl) (by kernel_rfl) (by kernel_rfl) (fun c a d v w h => HP c a d v w h) ⟨_, rfl⟩ (by assumption) (fun o ho => ?_)
 simp only [zg1, zg3, zg4] at ho
 subst ho
 refine ⟨?_, ⟨by rfl, ?_⟩, ?_⟩
 rotate_left
 · intro w hSw
   (try dsimp only at hSw)
   obtain ⟨hS1, hS2⟩ := hSw
   (go_simp; try with_reducible rfl)
 (try simp only [Act.put, zs1, zs2, zs3])
 refine take_at 1 (by kernel_rfl) (by kernel_rfl) (by kernel_rfl) (fun c a d v w h => HP c a d v w h) ⟨_, rfl⟩ (by assumption) (fun o ho => ?_)
 simp only [zg1, zg2, zg3, zg4] at ho
 subst ho
 refine ⟨?_, ⟨by rfl, ?_⟩, ?_⟩
 rotate_left
 · intro w hSw
   (try dsimp only at hSw)
   obtain ⟨hS1, hS2⟩ := hSw
   (go_simp; try with_reducible rfl)
 (try simp only [Act.put, zs1, zs2, zs3])
 refine take_at 2 (by kernel_rfl) (by kernel_rfl) (by kernel_rfl) (fun c a d v w h => HP c a d v w h) ⟨_, rfl⟩ (by assumption) (fun o ho => ?_)
 simp only [zg1, zg2, zg3, zg4] at ho
 subst ho
 refine ⟨?_, ⟨by rfl, ?_⟩, ?_⟩
 rotate_left
 · intro w hSw
   (try dsimp only at hSw)
   obtain ⟨hS1, hS2⟩ := hSw
   (go_simp; try with_reducible rfl)
 (try simp only [Act.put, zs1, zs2, zs3])
 refine take_at 3 (by kernel_rfl) (by kernel_rfl) (by kernel_rfl) (fun c a d v w h => HP c a d v w h) ⟨_, rfl⟩ (by assumption) (fun o ho => ?_)
 simp only [zg1, zg2, zg3, zg4] at ho
 subst ho
 refine ⟨?_, ⟨by rfl, ?_⟩, ?_⟩
 rotate_left
 · intro w hSw
   (try dsimp only at hSw)
   obtain ⟨hS1, hS2⟩ := hSw
   (go_simp; try with_reducible rfl)
 (try simp only [Act.put, zs1, zs2, zs3])
 refine take_at 4 (by kernel_rfl) (by kernel_rfl) (by kernel_rfl) (fun c a d v w h => HP c a d v w h) ⟨_, rfl⟩ (by assumption) (fun o ho => ?_)
 simp only [zg1, zg2, zg3, zg4] at ho
 subst ho
 refine ⟨?_, ⟨by rfl, ?_⟩, ?_⟩
 rotate_left
 · intro w hSw
   (try dsimp only at hSw)
   obtain ⟨hS1, hS2⟩ := hSw
   (go_simp; try with_reducible rfl)
 (try simp only [Act.put, zs1, zs2, zs3])
 refine wpAnyH_ready (rs := [5]) (by kernel_rfl) (by simp) ?_
 refine ready_at 5 ⟨_, rfl⟩ (fun o ho K hK => ?_) AllReadyH.nil
 simp only [zg1, zg2, zg3, zg4] at ho
 subst ho
 go_simp
 go_at_call 114
 refine (HNT.out W.drew (HS3.out.keep (fun _ _ _ h => h) (fun _ h => h))).mono ?_
 rintro e w1 ⟨rfl, hb1⟩
 have hB1 : B ≤ w1.heap.size := Nat.le_trans hBW hb1.size
 have HB1 := Lib.hid (isB_below (show Lib.IsBuilder TW TB B b bs W.drew from HB.out) hb1)
 have HBW1 := Lib.hid ((HBW.out.drew).trans (hb1.mono hBW))
 have HK1 := Lib.hid ((HK.out.drew).trans (ok_below hb1))
 have pg1 : Blk w1 g 28 #[.int .i64 1, .string ⟨#[]⟩, .slice A1 0 c1, .bool false, .slice A2 m.length c2, .slice A3 0 c3] := ok_below hb1 g _ ps (by simpa using hgb) (fun c fz e => by injection e with _ e _; exact absurd e (by decide))
 clear hb1
 refine hK.out _ _ ?_ (fun hHeld2 => ?_)
 · obtain ⟨_, _, _, y3, y4, _⟩ := pg1.six
   exact ⟨y3, y4⟩
 replace hHeld := hHeld2
 clear hK K hHeld2
 (try simp only [zs1, zs2, zs3])
 refine wpAnyH_ready (rs := [6]) (by kernel_rfl) (by simp) ?_
 refine ready_at 6 ⟨_, rfl⟩ (fun o ho K hK => ?_) AllReadyH.nil
 simp only [zg1, zg2, zg3, zg4] at ho
 subst ho
 go_simp
 go_at_call 78
 refine (wstr_w B b bs S w1 HB1.out hlS hB1).mono ?_
 rintro e w2 ⟨rfl, h2, hb2, hk2⟩
 have pg2 : Blk w2 g 28 #[.int .i64 1, .string ⟨#[]⟩, .slice A1 0 c1, .bool false, .slice A2 m.length c2, .slice A3 0 c3] := hk2 g _ pg1 (by simpa using hgb) (fun c fz e => by injection e with _ e _; exact absurd e (by decide))
 refine hK.out _ _ ?_ (fun hHeld2 => ?_)
 · obtain ⟨_, _, _, y3, y4, _⟩ := pg2.six
   exact ⟨y3, y4⟩
 replace hHeld := hHeld2
 clear hK K hHeld2
 (try simp only [zs1, zs2, zs3])
 refine wpAnyH_done (by kernel_rfl) ?_ _
 go_wp2
 rw [← HQ.out]
 exact ⟨_, results_no (by kernel_rfl) _ _, rfl, h2, (HBW1.out).trans hb2, (HK1.out).trans hk2⟩
end
section
open Go.RowKit
open Go.Shelf
attribute [local go_sem] Oper.semAt_some
set_option maxHeartbeats 2000000 in
set_option maxRecDepth 100000 in
theorem term_mul (m : List Nat) (hml : m.length ≤ 1099511627776) (t : T) (ih : TermW t) : TermW (.node 6 ⟨#[]⟩ [] false m [t]) := by
 intro B b bs tg w R v h hR hIs hlen hBw
 have e : termB (.node 6 ⟨#[]⟩ [] false m [t]) tg = (N.txt (N.nv m) ++ [32, 42, 32]) ++ termB t true := by
  have hb := P.body_mul m t
  have ht : P.tight (P.pt (.node 6 ⟨#[]⟩ [] false m [t])) = P.body (.node 6 ⟨#[]⟩ [] false m [t]) true := by unfold P.tight; rw [if_neg (by show ¬((6 : Int) = 4 ∨ (6 : Int) = 5); decide)]; rfl
  unfold termB
  rw [ht, ite_self, hb, P.bytes_cons, P.bytes_cons, P.bytes_cons, P.bytes_cons]
  rw [if_pos rfl, List.append_assoc]
  rfl
 rw [e] at hlen ⊢
 clear e
 rw [T.In] at h
 obtain ⟨A1, c1, A2, c2, A3, c3, rfl, _, hs2, hc3, hk⟩ := h
 obtain ⟨kb, ko, rfl, hRk, hI⟩ := hk (by simp)
 rw [T.Ins] at hI
 obtain ⟨⟨v0, v1, v2, v3, v4, v5, h6, hI0⟩, _⟩ := hI
 have hkB := hR kb hRk
 obtain ⟨S, hS⟩ : ∃ S : ByteArray, S = ⟨(N.txt (N.nv m)).toArray⟩ := ⟨_, rfl⟩
 have hsz : S.size = (N.txt (N.nv m)).length := by rw [hS]; simp [ByteArray.size]
 have HSC : Hid (Lib.strCells (S ++ ⟨#[32, 42, 32]⟩) = Lib.byteCells (N.txt (N.nv m) ++ [32, 42, 32])) := Lib.hid (by rw [hS]; simp [Lib.strCells, Lib.byteCells])
 have hsz2 : (S ++ ⟨#[32, 42, 32]⟩ : ByteArray).size = S.size + 3 := by rw [ByteArray.size_append]; rfl
 have hlS : bs.length + (S ++ ⟨#[32, 42, 32]⟩ : ByteArray).size ≤ 140737488355328 := by simp only [List.length_append, List.length_cons, List.length_nil] at hlen; omega
 have hl1 : (bs ++ Lib.strCells (S ++ ⟨#[32, 42, 32]⟩)).length + (termB t true).length ≤ 140737488355328 := by rw [List.length_append, Lib.strCells_length]; simp only [List.length_append, List.length_cons, List.length_nil] at hlen; omega
 have hcat : ¬ (9223372036854775807 < S.size + (⟨#[32, 42, 32]⟩ : ByteArray).size) := by have : (⟨#[32, 42, 32]⟩ : ByteArray).size = 3 := rfl; omega
 have hcat2 : ¬ (9223372036854775807 < S.size + 3) := by omega
 have HNT := Lib.hid (fun (w : World) (h : SlR w R A2 c2 m) => hS ▸ num_text h hml)
 have HS2 := Lib.hid hs2
 have HR := Lib.hid hR
 have IH := Lib.hid ih
 have H6 := Lib.hid h6
 have HI := Lib.hid hI0
 have HL1 := Lib.hid hl1
 clear hsz hlen hS hs2 hR ih h6 hI0 hk hl1 hsz2
 rw [Lib.byteCells_append, ← List.append_assoc, ← HSC.out]
 unfold tv
 simp only [List.length_nil, List.length_cons, Nat.zero_add]
 refine calls_of_wp_defers Tryz.func115 rfl ?_
 simp only [Tryz.ntmps115, List.size_toArray, List.length_cons, List.length_nil, Nat.reduceAdd, Nat.reduceSub, Array.replicate_succ, Array.replicate_zero, List.push_toArray, List.append_toArray, List.nil_append, List.cons_append]
 have HP := hp_term (fun e w' => e = .returned (.tuple #[]) ∧ (Lib.BuilderAt TW TB B b (.pointer (some ⟨b, 0, none⟩)) (bs ++ Lib.strCells (S ++ ⟨#[32, 42, 32]⟩) ++ Lib.byteCells (termB t true)) w' ∧ Below B w w' ∧ Lib.OthersKept TB (some b) w w'))
 generalize hQ : bodyPostD Tryz.prog Tryz.f115 _ = Q at HP ⊢
 have HQ := Lib.hid hQ
 clear hQ
 go_upto_region 19 with (fail)
 obtain ⟨W, hW, ps, hbW⟩ := made_blk w #[.int .i64 6, .string ⟨#[]⟩, .slice A1 0 c1, .bool false, .slice A2 m.length c2, .slice (some ⟨kb, ko, none⟩) 1 c3] 28
 obtain ⟨g, hg⟩ : ∃ g, g = w.heap.size := ⟨_, rfl⟩
 have HB : Hid (Lib.IsBuilder TW TB B b bs W) := Lib.hid (hW ▸ isB_alloc hIs _)
 have HK : Hid (Lib.OthersKept TB (some b) w W) := Lib.hid (hW ▸ (Lib.OthersKept.refl TB (some b) w).alloc _)
 have hBW : B ≤ W.heap.size := Nat.le_trans hBw hbW.size
 have HBW := Lib.hid (hbW.mono hBw)
 have HS3 := Lib.hid (HS2.out.under HR.out HBW.out)
 rw [← hW, ← hg]
 rw [← hg] at ps
 have hgb : g ≠ b := by
  have : b < w.heap.size := by rcases hIs with h' | h' <;> exact h'.lt
  omega
 clear hW hbW hIs hBw hg
 obtain ⟨x0, x1, x2, x3, x4, x5⟩ := ps.six
 refine wp_region_held_drew (S := fun w' => w'.cell? ⟨g, 3, none⟩ = some (.bool false) ∧ w'.cell? ⟨g, 4, none⟩ = some (.slice A2 m.length c2)) (by kernel_rfl) (by exact ⟨x3, x4⟩) (fun hHeld => ?_)
 refine take_at 0 (by kernel_rfl) (by kernel_rfl) (by kernel_rfl) (fun c a d v w h => HP c a d v w h) ⟨_, rfl⟩ (by assumption) (fun o ho => ?_)
 simp only [zg1, zg3, zg4] at ho
 subst ho
 refine ⟨?_, ⟨by rfl, ?_⟩, ?_⟩
 rotate_left
 · intro w hSw
   (try dsimp only at hSw)
   obtain ⟨hS1, hS2⟩ := hSw
   (go_simp; try with_reducible rfl)
 (try simp only [Act.put, zs1, zs2, zs3])
 refine take_at 1 (by kernel_rfl) (by kernel_rfl) (by kernel_rfl) (fun c a d v w h => HP c a d v w h) ⟨_, rfl⟩ (by assumption) (fun o ho => ?_)
 simp only [zg1, zg2, zg3, zg4] at ho
 subst ho
 refine ⟨?_, ⟨by rfl, ?_⟩, ?_⟩
 rotate_left
 · intro w hSw
   (try dsimp only at hSw)
   obtain ⟨hS1, hS2⟩ := hSw
   (go_simp; try with_reducible rfl)
 (try simp only [Act.put, zs1, zs2, zs3])
 refine take_at 2 (by kernel_rfl) (by kernel_rfl) (by kernel_rfl) (fun c a d v w h => HP c a d v w h) ⟨_, rfl⟩ (by assumption) (fun o ho => ?_)
 simp only [zg1, zg2, zg3, zg4] at ho
 subst ho
 refine ⟨?_, ⟨by rfl, ?_⟩, ?_⟩
 rotate_left
 · intro w hSw
   (try dsimp only at hSw)
   obtain ⟨hS1, hS2⟩ := hSw
   (go_simp; try with_reducible rfl)
 (try simp only [Act.put, zs1, zs2, zs3])
 refine take_at 3 (by kernel_rfl) (by kernel_rfl) (by kernel_rfl) (fun c a d v w h => HP c a d v w h) ⟨_, rfl⟩ (by assumption) (fun o ho => ?_)
 simp only [zg1, zg2, zg3, zg4] at ho
 subst ho
 refine ⟨?_, ⟨by rfl, ?_⟩, ?_⟩
 rotate_left
 · intro w hSw
   (try dsimp only at hSw)
   obtain ⟨hS1, hS2⟩ := hSw
   (go_simp; try with_reducible rfl)
 (try simp only [Act.put, zs1, zs2, zs3])
 refine take_at 4 (by kernel_rfl) (by kernel_rfl) (by kernel_rfl) (fun c a d v w h => HP c a d v w h) ⟨_, rfl⟩ (by assumption) (fun o ho => ?_)
 simp only [zg1, zg2, zg3, zg4] at ho
 subst ho
 refine ⟨?_, ⟨by rfl, ?_⟩, ?_⟩
 rotate_left
 · intro w hSw
   (try dsimp only at hSw)
   obtain ⟨hS1, hS2⟩ := hSw
   (go_simp; try with_reducible rfl)
 (try simp only [Act.put, zs1, zs2, zs3])
 refine wpAnyH_ready (rs := [5]) (by kernel_rfl) (by simp) ?_
 refine ready_at 5 ⟨_, rfl⟩ (fun o ho K hK => ?_) AllReadyH.nil
 simp only [zg1, zg2, zg3, zg4] at ho
 subst ho
 go_simp
 go_at_call 114
 refine (HNT.out W.drew (HS3.out.keep (fun _ _ _ h => h) (fun _ h => h))).mono ?_
 rintro e w1 ⟨rfl, hb1⟩
 have hB1 : B ≤ w1.heap.size := Nat.le_trans hBW hb1.size
 have HB1 := Lib.hid (isB_below (show Lib.IsBuilder TW TB B b bs W.drew from HB.out) hb1)
 have HBW1 := Lib.hid ((HBW.out.drew).trans (hb1.mono hBW))
 have HK1 := Lib.hid ((HK.out.drew).trans (ok_below hb1))
 have pg1 : Blk w1 g 28 #[.int .i64 6, .string ⟨#[]⟩, .slice A1 0 c1, .bool false, .slice A2 m.length c2, .slice (some ⟨kb, ko, none⟩) 1 c3] := ok_below hb1 g _ ps (by simpa using hgb) (fun c fz e => by injection e with _ e _; exact absurd e (by decide))
 clear hb1
 refine hK.out _ _ ?_ (fun hHeld2 => ?_)
 · obtain ⟨_, _, _, y3, y4, _⟩ := pg1.six
   exact ⟨y3, y4⟩
 replace hHeld := hHeld2
 clear hK K hHeld2
 (try simp only [zs1, zs2, zs3])
 refine take_at 6 (by kernel_rfl) (by kernel_rfl) (by kernel_rfl) (fun c a d v w h => HP c a d v w h) ⟨_, rfl⟩ (by assumption) (fun o ho => ?_)
 simp only [zg1, zg2, zg3, zg4] at ho
 subst ho
 refine ⟨?_, ⟨by rfl, ?_⟩, ?_⟩
 rotate_left
 · intro w hSw
   (try dsimp only at hSw)
   obtain ⟨hS1, hS2⟩ := hSw
   (go_simp; try with_reducible rfl)
 (try simp only [Act.put, zs1, zs2, zs3])
 refine wpAnyH_ready (rs := [7]) (by kernel_rfl) (by simp) ?_
 refine ready_at 7 ⟨_, rfl⟩ (fun o ho K hK => ?_) AllReadyH.nil
 simp only [zg1, zg2, zg3, zg4] at ho
 subst ho
 go_simp
 go_at_call 78
 refine (wstr_w B b bs _ w1 HB1.out ?_ hB1).mono ?_
 · exact hlS
 rintro e w2 ⟨rfl, h2, hb2, hk2⟩
 have pg2 : Blk w2 g 28 #[.int .i64 6, .string ⟨#[]⟩, .slice A1 0 c1, .bool false, .slice A2 m.length c2, .slice (some ⟨kb, ko, none⟩) 1 c3] := hk2 g _ pg1 (by simpa using hgb) (fun c fz e => by injection e with _ e _; exact absurd e (by decide))
 have HBB := Lib.hid ((HBW1.out).trans hb2)
 have HK2 := Lib.hid ((HK1.out).trans hk2)
 have hB2 : B ≤ w2.heap.size := Nat.le_trans hB1 hb2.size
 have H2 := Lib.hid h2
 clear h2 hb2 hk2
 refine hK.out _ _ ?_ (fun hHeld2 => ?_)
 · obtain ⟨_, _, _, y3, y4, _⟩ := pg2.six
   exact ⟨y3, y4⟩
 replace hHeld := hHeld2
 clear hK K hHeld2
 (try simp only [zs1, zs2, zs3])
 refine wpAnyH_done (by kernel_rfl) ?_ _
 clear hHeld x0 x1 x2 x3 x4 x5
 have HI1 := Lib.hid (HI.out.under HR.out HBB.out)
 obtain ⟨y0, y1, y2, y3, y4, y5⟩ := H6.out.keep (fun p v hp hc => (HBB.out.cell (by rw [hp]; exact hkB)).trans hc)
 obtain ⟨x0, x1, x2, x3, x4, x5⟩ := pg2.six
 clear ps pg1 pg2
 go_wp2_with (go_at_call 115; refine (IH.out B b (bs ++ Lib.strCells (S ++ ⟨#[32, 42, 32]⟩)) true _ R _ HI1.out HR.out (.inr H2.out) HL1.out hB2).mono ?_; rintro e w3 ⟨rfl, h3, hb3, hk3⟩)
 rw [← HQ.out]
 exact ⟨_, results_no (by kernel_rfl) _ _, rfl, h3, HBB.out.trans hb3, HK2.out.trans hk3⟩
end
section
open Go.RowKit
open Go.Shelf
theorem termB_two (k : Int) (s : UInt8) (hk : k = 4 ∨ k = 5) (t u : T) (hb : P.body (P.nd k [t, u]) true = P.body t true ++ none :: P.Sg ⟨#[s]⟩ :: none :: P.tight (P.pt u)) :
    termB (P.nd k [t, u]) false = termB t false ++ ([32, s, 32] ++ termB u true) ∧ termB (P.nd k [t, u]) true = 40 :: ((termB t false ++ ([32, s, 32] ++ termB u true)) ++ [41]) := by
  have ht : P.tight (P.pt (P.nd k [t, u])) = P.par (P.body (P.nd k [t, u]) true) := by unfold P.tight; rw [if_pos (by exact hk)]; rfl
  have h1 : P.bytes (P.body (P.nd k [t, u]) true) = termB t false ++ ([32, s, 32] ++ termB u true) := by
   rw [hb, P.bytes_append, P.bytes_cons, P.bytes_cons, P.bytes_cons]
   rfl
  refine ⟨h1, ?_⟩
  unfold termB
  rw [if_pos rfl, ht]
  unfold P.par
  rw [P.bytes_cons, P.bytes_append, h1]
  simp only [P.bytes_cons, termB]
  rfl
theorem term_all {b : Bool} {t : T} (h : P.Wf b t) : b = false → t.bulk ≤ 1048576 → TermW t := by
 induction h with
 | num m hm => exact fun _ hbk => term_num m (by rw [P.bulk_no] at hbk; omega)
 | var s hs => exact fun _ _ => term_name s
 | neg t ht ih => exact fun _ hbk => term_neg t (ih rfl (by rw [P.nd, P.bulk_no, P.bulks_one] at hbk; omega))
 | mul m hm t ht ih => exact fun _ hbk => term_mul m (by rw [P.bulk_no] at hbk; omega) t (ih rfl (by rw [P.bulk_no, P.bulks_one] at hbk; omega))
 | add t u ht hu iht ihu =>
  refine fun _ hbk => ?_
  have hbt : t.bulk ≤ 1048576 ∧ u.bulk ≤ 1048576 := by rw [P.nd, P.bulk_no, P.bulks_cons, P.bulks_one] at hbk; omega
  have IT := iht rfl hbt.1
  have IU := ihu rfl hbt.2
  obtain ⟨e0, e1⟩ := termB_two 4 43 (by decide) t u (P.body_add t u)
  intro B b bs tg w R v h hR hIs hlen hBw
  cases tg
  · rw [e0] at hlen ⊢
    refine (term_add0 t u IT IU B b bs w R v h hR hIs (by simp only [List.length_append, List.length_cons, List.length_nil] at hlen; omega) hBw).mono ?_
    rintro e w' ⟨rfl, h1, hb, hk⟩
    refine ⟨rfl, ?_, hb, hk⟩
    have e : bs ++ Lib.byteCells (termB t false ++ ([32, 43, 32] ++ termB u true)) = ((bs ++ Lib.byteCells (termB t false)) ++ Lib.strCells ⟨#[32, 43, 32]⟩) ++ Lib.byteCells (termB u true) := by simp [Lib.byteCells, Lib.strCells]
    rw [e]; exact h1
  · rw [e1] at hlen ⊢
    refine (term_add1 t u IT IU B b bs w R v h hR hIs (by simp only [List.length_append, List.length_cons, List.length_nil] at hlen; omega) hBw).mono ?_
    rintro e w' ⟨rfl, h1, hb, hk⟩
    refine ⟨rfl, ?_, hb, hk⟩
    have e : bs ++ Lib.byteCells (40 :: ((termB t false ++ ([32, 43, 32] ++ termB u true)) ++ [41])) = ((((bs ++ [Value.int .u8 40]) ++ Lib.byteCells (termB t false)) ++ Lib.strCells ⟨#[32, 43, 32]⟩) ++ Lib.byteCells (termB u true)) ++ [Value.int .u8 41] := by simp [Lib.byteCells, Lib.strCells]
    rw [e]; exact h1
 | sub t u ht hu iht ihu =>
  refine fun _ hbk => ?_
  have hbt : t.bulk ≤ 1048576 ∧ u.bulk ≤ 1048576 := by rw [P.nd, P.bulk_no, P.bulks_cons, P.bulks_one] at hbk; omega
  have IT := iht rfl hbt.1
  have IU := ihu rfl hbt.2
  obtain ⟨e0, e1⟩ := termB_two 5 45 (by decide) t u (P.body_sub t u)
  intro B b bs tg w R v h hR hIs hlen hBw
  cases tg
  · rw [e0] at hlen ⊢
    refine (term_sub0 t u IT IU B b bs w R v h hR hIs (by simp only [List.length_append, List.length_cons, List.length_nil] at hlen; omega) hBw).mono ?_
    rintro e w' ⟨rfl, h1, hb, hk⟩
    refine ⟨rfl, ?_, hb, hk⟩
    have e : bs ++ Lib.byteCells (termB t false ++ ([32, 45, 32] ++ termB u true)) = ((bs ++ Lib.byteCells (termB t false)) ++ Lib.strCells ⟨#[32, 45, 32]⟩) ++ Lib.byteCells (termB u true) := by simp [Lib.byteCells, Lib.strCells]
    rw [e]; exact h1
  · rw [e1] at hlen ⊢
    refine (term_sub1 t u IT IU B b bs w R v h hR hIs (by simp only [List.length_append, List.length_cons, List.length_nil] at hlen; omega) hBw).mono ?_
    rintro e w' ⟨rfl, h1, hb, hk⟩
    refine ⟨rfl, ?_, hb, hk⟩
    have e : bs ++ Lib.byteCells (40 :: ((termB t false ++ ([32, 45, 32] ++ termB u true)) ++ [41])) = ((((bs ++ [Value.int .u8 40]) ++ Lib.byteCells (termB t false)) ++ Lib.strCells ⟨#[32, 45, 32]⟩) ++ Lib.byteCells (termB u true)) ++ [Value.int .u8 41] := by simp [Lib.byteCells, Lib.strCells]
    rw [e]; exact h1
 | tt => intro h; cases h
 | ff => intro h; cases h
 | cmp k hk t u ht hu iht ihu => intro h; cases h
 | div m hm h0 t ht ih => intro h; cases h
 | not t ht ih => intro h; cases h
 | and t u ks ht hu hks iht ihu ihks => intro h; cases h
 | or t u ks ht hu hks iht ihu ihks => intro h; cases h
 | imp t u ht hu iht ihu => intro h; cases h
 | iff t u ht hu iht ihu => intro h; cases h
 | some s ns hs hns t ht ih => intro h; cases h
 | all s ns hs hns t ht ih => intro h; cases h
end
section
open Go.RowKit
open Go.Shelf
attribute [local go_sem] Oper.semAt_some
def atomB (t : T) : List UInt8 := P.bytes (P.body t true)
def AtomW (t : T) : Prop := ∀ (B b : Nat) (bs : List Value) (w : World) (R : Nat → Prop) (v : Value), T.In w R t v → (∀ g, R g → g < B) → Lib.IsBuilder TW TB B b bs w →
    bs.length + (atomB t).length ≤ 140737488355328 → B ≤ w.heap.size →
    Calls Tryz.prog 80 #[.pointer (some ⟨b, 0, none⟩), v] w fun e w' => e = .returned (.tuple #[]) ∧ (Lib.BuilderAt TW TB B b (.pointer (some ⟨b, 0, none⟩)) (bs ++ Lib.byteCells (atomB t)) w' ∧ Below B w w' ∧ Lib.OthersKept TB (some b) w w')
set_option maxHeartbeats 1600000 in
set_option maxRecDepth 100000 in
theorem atom_true : AtomW (P.nd 7 []) := by
 intro B b bs w R v h _ hIs hlen hBw
 have e : atomB (P.nd 7 []) = [116, 114, 117, 101] := rfl
 rw [e] at hlen ⊢
 have hlen' : bs.length + (⟨#[116, 114, 117, 101]⟩ : ByteArray).size ≤ 140737488355328 := hlen
 clear e hlen
 rw [P.nd, T.In] at h
 obtain ⟨A1, c1, A2, c2, A3, c3, rfl, _⟩ := h
 unfold tv
 simp only [List.length_nil]
 go_enter Tryz.func80, Tryz.ntmps80
 go_upto_region 4 with (fail)
 obtain ⟨W, hW, ps, hbW⟩ := made_blk w #[.int .i64 7, .string ⟨#[]⟩, .slice A1 0 c1, .bool false, .slice A2 0 c2, .slice A3 0 c3] 28
 obtain ⟨g, hg⟩ : ∃ g, g = w.heap.size := ⟨_, rfl⟩
 have HB : Hid (Lib.IsBuilder TW TB B b bs W) := Lib.hid (hW ▸ isB_alloc hIs _)
 have HK : Hid (Lib.OthersKept TB (some b) w W) := Lib.hid (hW ▸ (Lib.OthersKept.refl TB (some b) w).alloc _)
 have hBW : B ≤ W.heap.size := Nat.le_trans hBw hbW.size
 have HBW := Lib.hid (hbW.mono hBw)
 skip
 rw [← hW, ← hg]
 rw [← hg] at ps
 have hgb : g ≠ b := by
  have : b < w.heap.size := by rcases hIs with h' | h' <;> exact h'.lt
  omega
 clear hW hbW hIs hBw hg
 obtain ⟨x0, x1, x2, x3, x4, x5⟩ := ps.six
 go_wp2_with (go_at_call 78; refine (wstr_w B b bs ⟨#[116, 114, 117, 101]⟩ _ HB.out hlen' hBW).mono ?_; rintro e w2 ⟨rfl, h2, hb2, hk2⟩)
 refine bodyPost_ret (results_none rfl _ _ _) rfl ?_
 exact ⟨rfl, h2, (HBW.out).trans hb2, (HK.out).trans hk2⟩
set_option maxHeartbeats 1600000 in
set_option maxRecDepth 100000 in
theorem atom_false : AtomW (P.nd 8 []) := by
 intro B b bs w R v h _ hIs hlen hBw
 have e : atomB (P.nd 8 []) = [102, 97, 108, 115, 101] := rfl
 rw [e] at hlen ⊢
 have hlen' : bs.length + (⟨#[102, 97, 108, 115, 101]⟩ : ByteArray).size ≤ 140737488355328 := hlen
 clear e hlen
 rw [P.nd, T.In] at h
 obtain ⟨A1, c1, A2, c2, A3, c3, rfl, _⟩ := h
 unfold tv
 simp only [List.length_nil]
 go_enter Tryz.func80, Tryz.ntmps80
 go_upto_region 6 with (fail)
 obtain ⟨W, hW, ps, hbW⟩ := made_blk w #[.int .i64 8, .string ⟨#[]⟩, .slice A1 0 c1, .bool false, .slice A2 0 c2, .slice A3 0 c3] 28
 obtain ⟨g, hg⟩ : ∃ g, g = w.heap.size := ⟨_, rfl⟩
 have HB : Hid (Lib.IsBuilder TW TB B b bs W) := Lib.hid (hW ▸ isB_alloc hIs _)
 have HK : Hid (Lib.OthersKept TB (some b) w W) := Lib.hid (hW ▸ (Lib.OthersKept.refl TB (some b) w).alloc _)
 have hBW : B ≤ W.heap.size := Nat.le_trans hBw hbW.size
 have HBW := Lib.hid (hbW.mono hBw)
 skip
 rw [← hW, ← hg]
 rw [← hg] at ps
 have hgb : g ≠ b := by
  have : b < w.heap.size := by rcases hIs with h' | h' <;> exact h'.lt
  omega
 clear hW hbW hIs hBw hg
 obtain ⟨x0, x1, x2, x3, x4, x5⟩ := ps.six
 go_wp2_with (go_at_call 78; refine (wstr_w B b bs ⟨#[102, 97, 108, 115, 101]⟩ _ HB.out hlen' hBW).mono ?_; rintro e w2 ⟨rfl, h2, hb2, hk2⟩)
 refine bodyPost_ret (results_none rfl _ _ _) rfl ?_
 exact ⟨rfl, h2, (HBW.out).trans hb2, (HK.out).trans hk2⟩
end
section
open Go.RowKit
open Go.Shelf
attribute [local go_sem] Oper.semAt_some
set_option maxHeartbeats 3200000 in
set_option maxRecDepth 100000 in
theorem atom_9 (t u : T) (iht : TermW t) (ihu : TermW u) : AtomW (P.nd 9 [t, u]) := by
 intro B b bs w R v h hR hIs hlen hBw
 have e : atomB (P.nd 9 [t, u]) = termB t false ++ ([32, 60, 32] ++ termB u false) := by
  unfold atomB
  rw [P.body_cmp (by decide), P.bytes_append, P.bytes_cons, P.bytes_cons, P.bytes_cons]
  rfl
 rw [e] at hlen ⊢
 clear e
 simp only [List.length_append, List.length_cons, List.length_nil] at hlen
 have e : bs ++ Lib.byteCells (termB t false ++ ([32, 60, 32] ++ termB u false)) = ((bs ++ Lib.byteCells (termB t false)) ++ Lib.strCells ⟨#[32, 60, 32]⟩) ++ Lib.byteCells (termB u false) := by simp [Lib.byteCells, Lib.strCells]
 rw [e]
 clear e
 rw [P.nd, T.In] at h
 obtain ⟨A1, c1, A2, c2, A3, c3, rfl, _, _, hc3, hk⟩ := h
 obtain ⟨kb, ko, rfl, hRk, hI⟩ := hk (by simp)
 rw [T.Ins, T.Ins] at hI
 obtain ⟨⟨v0, v1, v2, v3, v4, v5, h6, hI0⟩, ⟨u0, u1, u2, u3, u4, u5, k6, hJ0⟩, _⟩ := hI
 have hkB := hR kb hRk
 have IHT := Lib.hid iht
 have IHU := Lib.hid ihu
 have H6 := Lib.hid h6
 have K6 := Lib.hid k6
 have HI := Lib.hid hI0
 have HJ := Lib.hid hJ0
 have HR := Lib.hid hR
 clear iht ihu h6 hI0 k6 hJ0 hR hk
 unfold tv
 simp only [List.length_nil, List.length_cons, Nat.zero_add, Nat.reduceAdd]
 go_enter Tryz.func80, Tryz.ntmps80
 go_upto_region 22 with (fail)
 obtain ⟨W, hW, ps, hbW⟩ := made_blk w #[.int .i64 9, .string ⟨#[]⟩, .slice A1 0 c1, .bool false, .slice A2 0 c2, .slice (some ⟨kb, ko, none⟩) 2 c3] 28
 obtain ⟨g, hg⟩ : ∃ g, g = w.heap.size := ⟨_, rfl⟩
 have HB : Hid (Lib.IsBuilder TW TB B b bs W) := Lib.hid (hW ▸ isB_alloc hIs _)
 have HK : Hid (Lib.OthersKept TB (some b) w W) := Lib.hid (hW ▸ (Lib.OthersKept.refl TB (some b) w).alloc _)
 have hBW : B ≤ W.heap.size := Nat.le_trans hBw hbW.size
 have HBW := Lib.hid (hbW.mono hBw)
 skip
 rw [← hW, ← hg]
 rw [← hg] at ps
 have hgb : g ≠ b := by
  have : b < w.heap.size := by rcases hIs with h' | h' <;> exact h'.lt
  omega
 clear hW hbW hIs hBw hg
 obtain ⟨x0, x1, x2, x3, x4, x5⟩ := ps.six
 obtain ⟨y0, y1, y2, y3, y4, y5⟩ := H6.out.keep (fun p v hp hc => (HBW.out.cell (by rw [hp]; exact hkB)).trans hc)
 have HI1 := Lib.hid (HI.out.under HR.out HBW.out)
 have hl1 : bs.length + (termB t false).length ≤ 140737488355328 := by omega
 have HPS := Lib.hid ps
 clear ps
 go_upto_region 23 with (go_at_call 115; refine (IHT.out B b bs false _ R _ HI1.out HR.out HB.out hl1 hBW).mono ?_; rintro e w1 ⟨rfl, h1, hb1, hk1⟩)
 have pg : Blk w1 g 28 #[.int .i64 9, .string ⟨#[]⟩, .slice A1 0 c1, .bool false, .slice A2 0 c2, .slice (some ⟨kb, ko, none⟩) 2 c3] := hk1 g _ HPS.out (by simpa using hgb) (fun c fz e => by injection e with _ e _; exact absurd e (by decide))
 have HBB := Lib.hid (HBW.out.trans hb1)
 have HK1 := Lib.hid (HK.out.trans hk1)
 have hB1 : B ≤ w1.heap.size := Nat.le_trans hBW hb1.size
 clear x0 x1 x2 x3 x4 x5 y0 y1 y2 y3 y4 y5
 obtain ⟨x0, x1, x2, x3, x4, x5⟩ := pg.six
 have H1 := Lib.hid h1
 have HPG := Lib.hid pg
 have hl2 : (bs ++ Lib.byteCells (termB t false)).length + (⟨#[32, 60, 32]⟩ : ByteArray).size ≤ 140737488355328 := by rw [List.length_append, Lib.byteCells_length]; have : (⟨#[32, 60, 32]⟩ : ByteArray).size = 3 := rfl; omega
 have hl3 : ((bs ++ Lib.byteCells (termB t false)) ++ Lib.strCells ⟨#[32, 60, 32]⟩).length + (termB u false).length ≤ 140737488355328 := by rw [List.length_append, List.length_append, Lib.byteCells_length, Lib.strCells_length]; have : (⟨#[32, 60, 32]⟩ : ByteArray).size = 3 := rfl; omega
 clear h1 hk1 hb1 pg
 go_wp2_with (first
  | (go_at_call 115; refine (IHU.out B b ((bs ++ Lib.byteCells (termB t false)) ++ Lib.strCells ⟨#[32, 60, 32]⟩) false _ R _ HJ3.out HR.out (.inr H3.out) hl3 hB3).mono ?_; rintro e w4 ⟨rfl, h4, hb4, hk4⟩)
  | (go_at_call 78; refine (wstr_w B b (bs ++ Lib.byteCells (termB t false)) ⟨#[32, 60, 32]⟩ _ (.inr H1.out) hl2 hB1).mono ?_; rintro e w3 ⟨rfl, h3, hb3, hk3⟩; have pg3 : Blk w3 g 28 #[.int .i64 9, .string ⟨#[]⟩, .slice A1 0 c1, .bool false, .slice A2 0 c2, .slice (some ⟨kb, ko, none⟩) 2 c3] := hk3 g _ HPG.out (by simpa using hgb) (fun c fz e => by injection e with _ e _; exact absurd e (by decide)); have HB3 := Lib.hid (HBB.out.trans hb3); have HK3 := Lib.hid (HK1.out.trans hk3); have hB3 : B ≤ w3.heap.size := Nat.le_trans hB1 hb3.size; have H3 := Lib.hid h3; have HJ3 := Lib.hid (HJ.out.under HR.out HB3.out); clear x0 x1 x2 x3 x4 x5 h3 hk3 hb3; obtain ⟨x0, x1, x2, x3, x4, x5⟩ := pg3.six; obtain ⟨y0, y1, y2, y3, y4, y5⟩ := K6.out.keep (fun p v hp hc => (HB3.out.cell (by rw [hp]; exact hkB)).trans hc)))
 go_end0
 exact ⟨rfl, h4, HB3.out.trans hb4, HK3.out.trans hk4⟩
set_option maxHeartbeats 3200000 in
set_option maxRecDepth 100000 in
theorem atom_10 (t u : T) (iht : TermW t) (ihu : TermW u) : AtomW (P.nd 10 [t, u]) := by
 intro B b bs w R v h hR hIs hlen hBw
 have e : atomB (P.nd 10 [t, u]) = termB t false ++ ([32, 60, 61, 32] ++ termB u false) := by
  unfold atomB
  rw [P.body_cmp (by decide), P.bytes_append, P.bytes_cons, P.bytes_cons, P.bytes_cons]
  rfl
 rw [e] at hlen ⊢
 clear e
 simp only [List.length_append, List.length_cons, List.length_nil] at hlen
 have e : bs ++ Lib.byteCells (termB t false ++ ([32, 60, 61, 32] ++ termB u false)) = ((bs ++ Lib.byteCells (termB t false)) ++ Lib.strCells ⟨#[32, 60, 61, 32]⟩) ++ Lib.byteCells (termB u false) := by simp [Lib.byteCells, Lib.strCells]
 rw [e]
 clear e
 rw [P.nd, T.In] at h
 obtain ⟨A1, c1, A2, c2, A3, c3, rfl, _, _, hc3, hk⟩ := h
 obtain ⟨kb, ko, rfl, hRk, hI⟩ := hk (by simp)
 rw [T.Ins, T.Ins] at hI
 obtain ⟨⟨v0, v1, v2, v3, v4, v5, h6, hI0⟩, ⟨u0, u1, u2, u3, u4, u5, k6, hJ0⟩, _⟩ := hI
 have hkB := hR kb hRk
 have IHT := Lib.hid iht
 have IHU := Lib.hid ihu
 have H6 := Lib.hid h6
 have K6 := Lib.hid k6
 have HI := Lib.hid hI0
 have HJ := Lib.hid hJ0
 have HR := Lib.hid hR
 clear iht ihu h6 hI0 k6 hJ0 hR hk
 unfold tv
 simp only [List.length_nil, List.length_cons, Nat.zero_add, Nat.reduceAdd]
 go_enter Tryz.func80, Tryz.ntmps80
 go_upto_region 22 with (fail)
 obtain ⟨W, hW, ps, hbW⟩ := made_blk w #[.int .i64 10, .string ⟨#[]⟩, .slice A1 0 c1, .bool false, .slice A2 0 c2, .slice (some ⟨kb, ko, none⟩) 2 c3] 28
 obtain ⟨g, hg⟩ : ∃ g, g = w.heap.size := ⟨_, rfl⟩
 have HB : Hid (Lib.IsBuilder TW TB B b bs W) := Lib.hid (hW ▸ isB_alloc hIs _)
 have HK : Hid (Lib.OthersKept TB (some b) w W) := Lib.hid (hW ▸ (Lib.OthersKept.refl TB (some b) w).alloc _)
 have hBW : B ≤ W.heap.size := Nat.le_trans hBw hbW.size
 have HBW := Lib.hid (hbW.mono hBw)
 skip
 rw [← hW, ← hg]
 rw [← hg] at ps
 have hgb : g ≠ b := by
  have : b < w.heap.size := by rcases hIs with h' | h' <;> exact h'.lt
  omega
 clear hW hbW hIs hBw hg
 obtain ⟨x0, x1, x2, x3, x4, x5⟩ := ps.six
 obtain ⟨y0, y1, y2, y3, y4, y5⟩ := H6.out.keep (fun p v hp hc => (HBW.out.cell (by rw [hp]; exact hkB)).trans hc)
 have HI1 := Lib.hid (HI.out.under HR.out HBW.out)
 have hl1 : bs.length + (termB t false).length ≤ 140737488355328 := by omega
 have HPS := Lib.hid ps
 clear ps
 go_upto_region 23 with (go_at_call 115; refine (IHT.out B b bs false _ R _ HI1.out HR.out HB.out hl1 hBW).mono ?_; rintro e w1 ⟨rfl, h1, hb1, hk1⟩)
 have pg : Blk w1 g 28 #[.int .i64 10, .string ⟨#[]⟩, .slice A1 0 c1, .bool false, .slice A2 0 c2, .slice (some ⟨kb, ko, none⟩) 2 c3] := hk1 g _ HPS.out (by simpa using hgb) (fun c fz e => by injection e with _ e _; exact absurd e (by decide))
 have HBB := Lib.hid (HBW.out.trans hb1)
 have HK1 := Lib.hid (HK.out.trans hk1)
 have hB1 : B ≤ w1.heap.size := Nat.le_trans hBW hb1.size
 clear x0 x1 x2 x3 x4 x5 y0 y1 y2 y3 y4 y5
 obtain ⟨x0, x1, x2, x3, x4, x5⟩ := pg.six
 have H1 := Lib.hid h1
 have HPG := Lib.hid pg
 have hl2 : (bs ++ Lib.byteCells (termB t false)).length + (⟨#[32, 60, 61, 32]⟩ : ByteArray).size ≤ 140737488355328 := by rw [List.length_append, Lib.byteCells_length]; have : (⟨#[32, 60, 61, 32]⟩ : ByteArray).size = 4 := rfl; omega
 have hl3 : ((bs ++ Lib.byteCells (termB t false)) ++ Lib.strCells ⟨#[32, 60, 61, 32]⟩).length + (termB u false).length ≤ 140737488355328 := by rw [List.length_append, List.length_append, Lib.byteCells_length, Lib.strCells_length]; have : (⟨#[32, 60, 61, 32]⟩ : ByteArray).size = 4 := rfl; omega
 clear h1 hk1 hb1 pg
 go_wp2_with (first
  | (go_at_call 115; refine (IHU.out B b ((bs ++ Lib.byteCells (termB t false)) ++ Lib.strCells ⟨#[32, 60, 61, 32]⟩) false _ R _ HJ3.out HR.out (.inr H3.out) hl3 hB3).mono ?_; rintro e w4 ⟨rfl, h4, hb4, hk4⟩)
  | (go_at_call 78; refine (wstr_w B b (bs ++ Lib.byteCells (termB t false)) ⟨#[32, 60, 61, 32]⟩ _ (.inr H1.out) hl2 hB1).mono ?_; rintro e w3 ⟨rfl, h3, hb3, hk3⟩; have pg3 : Blk w3 g 28 #[.int .i64 10, .string ⟨#[]⟩, .slice A1 0 c1, .bool false, .slice A2 0 c2, .slice (some ⟨kb, ko, none⟩) 2 c3] := hk3 g _ HPG.out (by simpa using hgb) (fun c fz e => by injection e with _ e _; exact absurd e (by decide)); have HB3 := Lib.hid (HBB.out.trans hb3); have HK3 := Lib.hid (HK1.out.trans hk3); have hB3 : B ≤ w3.heap.size := Nat.le_trans hB1 hb3.size; have H3 := Lib.hid h3; have HJ3 := Lib.hid (HJ.out.under HR.out HB3.out); clear x0 x1 x2 x3 x4 x5 h3 hk3 hb3; obtain ⟨x0, x1, x2, x3, x4, x5⟩ := pg3.six; obtain ⟨y0, y1, y2, y3, y4, y5⟩ := K6.out.keep (fun p v hp hc => (HB3.out.cell (by rw [hp]; exact hkB)).trans hc)))
 go_end0
 exact ⟨rfl, h4, HB3.out.trans hb4, HK3.out.trans hk4⟩
set_option maxHeartbeats 3200000 in
set_option maxRecDepth 100000 in
theorem atom_11 (t u : T) (iht : TermW t) (ihu : TermW u) : AtomW (P.nd 11 [t, u]) := by
 intro B b bs w R v h hR hIs hlen hBw
 have e : atomB (P.nd 11 [t, u]) = termB t false ++ ([32, 61, 32] ++ termB u false) := by
  unfold atomB
  rw [P.body_cmp (by decide), P.bytes_append, P.bytes_cons, P.bytes_cons, P.bytes_cons]
  rfl
 rw [e] at hlen ⊢
 clear e
 simp only [List.length_append, List.length_cons, List.length_nil] at hlen
 have e : bs ++ Lib.byteCells (termB t false ++ ([32, 61, 32] ++ termB u false)) = ((bs ++ Lib.byteCells (termB t false)) ++ Lib.strCells ⟨#[32, 61, 32]⟩) ++ Lib.byteCells (termB u false) := by simp [Lib.byteCells, Lib.strCells]
 rw [e]
 clear e
 rw [P.nd, T.In] at h
 obtain ⟨A1, c1, A2, c2, A3, c3, rfl, _, _, hc3, hk⟩ := h
 obtain ⟨kb, ko, rfl, hRk, hI⟩ := hk (by simp)
 rw [T.Ins, T.Ins] at hI
 obtain ⟨⟨v0, v1, v2, v3, v4, v5, h6, hI0⟩, ⟨u0, u1, u2, u3, u4, u5, k6, hJ0⟩, _⟩ := hI
 have hkB := hR kb hRk
 have IHT := Lib.hid iht
 have IHU := Lib.hid ihu
 have H6 := Lib.hid h6
 have K6 := Lib.hid k6
 have HI := Lib.hid hI0
 have HJ := Lib.hid hJ0
 have HR := Lib.hid hR
 clear iht ihu h6 hI0 k6 hJ0 hR hk
 unfold tv
 simp only [List.length_nil, List.length_cons, Nat.zero_add, Nat.reduceAdd]
 go_enter Tryz.func80, Tryz.ntmps80
 go_upto_region 22 with (fail)
 obtain ⟨W, hW, ps, hbW⟩ := made_blk w #[.int .i64 11, .string ⟨#[]⟩, .slice A1 0 c1, .bool false, .slice A2 0 c2, .slice (some ⟨kb, ko, none⟩) 2 c3] 28
 obtain ⟨g, hg⟩ : ∃ g, g = w.heap.size := ⟨_, rfl⟩
 have HB : Hid (Lib.IsBuilder TW TB B b bs W) := Lib.hid (hW ▸ isB_alloc hIs _)
 have HK : Hid (Lib.OthersKept TB (some b) w W) := Lib.hid (hW ▸ (Lib.OthersKept.refl TB (some b) w).alloc _)
 have hBW : B ≤ W.heap.size := Nat.le_trans hBw hbW.size
 have HBW := Lib.hid (hbW.mono hBw)
 skip
 rw [← hW, ← hg]
 rw [← hg] at ps
 have hgb : g ≠ b := by
  have : b < w.heap.size := by rcases hIs with h' | h' <;> exact h'.lt
  omega
 clear hW hbW hIs hBw hg
 obtain ⟨x0, x1, x2, x3, x4, x5⟩ := ps.six
 obtain ⟨y0, y1, y2, y3, y4, y5⟩ := H6.out.keep (fun p v hp hc => (HBW.out.cell (by rw [hp]; exact hkB)).trans hc)
 have HI1 := Lib.hid (HI.out.under HR.out HBW.out)
 have hl1 : bs.length + (termB t false).length ≤ 140737488355328 := by omega
 have HPS := Lib.hid ps
 clear ps
 go_upto_region 23 with (go_at_call 115; refine (IHT.out B b bs false _ R _ HI1.out HR.out HB.out hl1 hBW).mono ?_; rintro e w1 ⟨rfl, h1, hb1, hk1⟩)
 have pg : Blk w1 g 28 #[.int .i64 11, .string ⟨#[]⟩, .slice A1 0 c1, .bool false, .slice A2 0 c2, .slice (some ⟨kb, ko, none⟩) 2 c3] := hk1 g _ HPS.out (by simpa using hgb) (fun c fz e => by injection e with _ e _; exact absurd e (by decide))
 have HBB := Lib.hid (HBW.out.trans hb1)
 have HK1 := Lib.hid (HK.out.trans hk1)
 have hB1 : B ≤ w1.heap.size := Nat.le_trans hBW hb1.size
 clear x0 x1 x2 x3 x4 x5 y0 y1 y2 y3 y4 y5
 obtain ⟨x0, x1, x2, x3, x4, x5⟩ := pg.six
 have H1 := Lib.hid h1
 have HPG := Lib.hid pg
 have hl2 : (bs ++ Lib.byteCells (termB t false)).length + (⟨#[32, 61, 32]⟩ : ByteArray).size ≤ 140737488355328 := by rw [List.length_append, Lib.byteCells_length]; have : (⟨#[32, 61, 32]⟩ : ByteArray).size = 3 := rfl; omega
 have hl3 : ((bs ++ Lib.byteCells (termB t false)) ++ Lib.strCells ⟨#[32, 61, 32]⟩).length + (termB u false).length ≤ 140737488355328 := by rw [List.length_append, List.length_append, Lib.byteCells_length, Lib.strCells_length]; have : (⟨#[32, 61, 32]⟩ : ByteArray).size = 3 := rfl; omega
 clear h1 hk1 hb1 pg
 go_wp2_with (first
  | (go_at_call 115; refine (IHU.out B b ((bs ++ Lib.byteCells (termB t false)) ++ Lib.strCells ⟨#[32, 61, 32]⟩) false _ R _ HJ3.out HR.out (.inr H3.out) hl3 hB3).mono ?_; rintro e w4 ⟨rfl, h4, hb4, hk4⟩)
  | (go_at_call 78; refine (wstr_w B b (bs ++ Lib.byteCells (termB t false)) ⟨#[32, 61, 32]⟩ _ (.inr H1.out) hl2 hB1).mono ?_; rintro e w3 ⟨rfl, h3, hb3, hk3⟩; have pg3 : Blk w3 g 28 #[.int .i64 11, .string ⟨#[]⟩, .slice A1 0 c1, .bool false, .slice A2 0 c2, .slice (some ⟨kb, ko, none⟩) 2 c3] := hk3 g _ HPG.out (by simpa using hgb) (fun c fz e => by injection e with _ e _; exact absurd e (by decide)); have HB3 := Lib.hid (HBB.out.trans hb3); have HK3 := Lib.hid (HK1.out.trans hk3); have hB3 : B ≤ w3.heap.size := Nat.le_trans hB1 hb3.size; have H3 := Lib.hid h3; have HJ3 := Lib.hid (HJ.out.under HR.out HB3.out); clear x0 x1 x2 x3 x4 x5 h3 hk3 hb3; obtain ⟨x0, x1, x2, x3, x4, x5⟩ := pg3.six; obtain ⟨y0, y1, y2, y3, y4, y5⟩ := K6.out.keep (fun p v hp hc => (HB3.out.cell (by rw [hp]; exact hkB)).trans hc)))
 go_end0
 exact ⟨rfl, h4, HB3.out.trans hb4, HK3.out.trans hk4⟩
set_option maxHeartbeats 3200000 in
set_option maxRecDepth 100000 in
theorem atom_12 (t u : T) (iht : TermW t) (ihu : TermW u) : AtomW (P.nd 12 [t, u]) := by
 intro B b bs w R v h hR hIs hlen hBw
 have e : atomB (P.nd 12 [t, u]) = termB t false ++ ([32, 33, 61, 32] ++ termB u false) := by
  unfold atomB
  rw [P.body_cmp (by decide), P.bytes_append, P.bytes_cons, P.bytes_cons, P.bytes_cons]
  rfl
 rw [e] at hlen ⊢
 clear e
 simp only [List.length_append, List.length_cons, List.length_nil] at hlen
 have e : bs ++ Lib.byteCells (termB t false ++ ([32, 33, 61, 32] ++ termB u false)) = ((bs ++ Lib.byteCells (termB t false)) ++ Lib.strCells ⟨#[32, 33, 61, 32]⟩) ++ Lib.byteCells (termB u false) := by simp [Lib.byteCells, Lib.strCells]
 rw [e]
 clear e
 rw [P.nd, T.In] at h
 obtain ⟨A1, c1, A2, c2, A3, c3, rfl, _, _, hc3, hk⟩ := h
 obtain ⟨kb, ko, rfl, hRk, hI⟩ := hk (by simp)
 rw [T.Ins, T.Ins] at hI
 obtain ⟨⟨v0, v1, v2, v3, v4, v5, h6, hI0⟩, ⟨u0, u1, u2, u3, u4, u5, k6, hJ0⟩, _⟩ := hI
 have hkB := hR kb hRk
 have IHT := Lib.hid iht
 have IHU := Lib.hid ihu
 have H6 := Lib.hid h6
 have K6 := Lib.hid k6
 have HI := Lib.hid hI0
 have HJ := Lib.hid hJ0
 have HR := Lib.hid hR
 clear iht ihu h6 hI0 k6 hJ0 hR hk
 unfold tv
 simp only [List.length_nil, List.length_cons, Nat.zero_add, Nat.reduceAdd]
 go_enter Tryz.func80, Tryz.ntmps80
 go_upto_region 22 with (fail)
 obtain ⟨W, hW, ps, hbW⟩ := made_blk w #[.int .i64 12, .string ⟨#[]⟩, .slice A1 0 c1, .bool false, .slice A2 0 c2, .slice (some ⟨kb, ko, none⟩) 2 c3] 28
 obtain ⟨g, hg⟩ : ∃ g, g = w.heap.size := ⟨_, rfl⟩
 have HB : Hid (Lib.IsBuilder TW TB B b bs W) := Lib.hid (hW ▸ isB_alloc hIs _)
 have HK : Hid (Lib.OthersKept TB (some b) w W) := Lib.hid (hW ▸ (Lib.OthersKept.refl TB (some b) w).alloc _)
 have hBW : B ≤ W.heap.size := Nat.le_trans hBw hbW.size
 have HBW := Lib.hid (hbW.mono hBw)
 skip
 rw [← hW, ← hg]
 rw [← hg] at ps
 have hgb : g ≠ b := by
  have : b < w.heap.size := by rcases hIs with h' | h' <;> exact h'.lt
  omega
 clear hW hbW hIs hBw hg
 obtain ⟨x0, x1, x2, x3, x4, x5⟩ := ps.six
 obtain ⟨y0, y1, y2, y3, y4, y5⟩ := H6.out.keep (fun p v hp hc => (HBW.out.cell (by rw [hp]; exact hkB)).trans hc)
 have HI1 := Lib.hid (HI.out.under HR.out HBW.out)
 have hl1 : bs.length + (termB t false).length ≤ 140737488355328 := by omega
 have HPS := Lib.hid ps
 clear ps
 go_upto_region 23 with (go_at_call 115; refine (IHT.out B b bs false _ R _ HI1.out HR.out HB.out hl1 hBW).mono ?_; rintro e w1 ⟨rfl, h1, hb1, hk1⟩)
 have pg : Blk w1 g 28 #[.int .i64 12, .string ⟨#[]⟩, .slice A1 0 c1, .bool false, .slice A2 0 c2, .slice (some ⟨kb, ko, none⟩) 2 c3] := hk1 g _ HPS.out (by simpa using hgb) (fun c fz e => by injection e with _ e _; exact absurd e (by decide))
 have HBB := Lib.hid (HBW.out.trans hb1)
 have HK1 := Lib.hid (HK.out.trans hk1)
 have hB1 : B ≤ w1.heap.size := Nat.le_trans hBW hb1.size
 clear x0 x1 x2 x3 x4 x5 y0 y1 y2 y3 y4 y5
 obtain ⟨x0, x1, x2, x3, x4, x5⟩ := pg.six
 have H1 := Lib.hid h1
 have HPG := Lib.hid pg
 have hl2 : (bs ++ Lib.byteCells (termB t false)).length + (⟨#[32, 33, 61, 32]⟩ : ByteArray).size ≤ 140737488355328 := by rw [List.length_append, Lib.byteCells_length]; have : (⟨#[32, 33, 61, 32]⟩ : ByteArray).size = 4 := rfl; omega
 have hl3 : ((bs ++ Lib.byteCells (termB t false)) ++ Lib.strCells ⟨#[32, 33, 61, 32]⟩).length + (termB u false).length ≤ 140737488355328 := by rw [List.length_append, List.length_append, Lib.byteCells_length, Lib.strCells_length]; have : (⟨#[32, 33, 61, 32]⟩ : ByteArray).size = 4 := rfl; omega
 clear h1 hk1 hb1 pg
 go_wp2_with (first
  | (go_at_call 115; refine (IHU.out B b ((bs ++ Lib.byteCells (termB t false)) ++ Lib.strCells ⟨#[32, 33, 61, 32]⟩) false _ R _ HJ3.out HR.out (.inr H3.out) hl3 hB3).mono ?_; rintro e w4 ⟨rfl, h4, hb4, hk4⟩)
  | (go_at_call 78; refine (wstr_w B b (bs ++ Lib.byteCells (termB t false)) ⟨#[32, 33, 61, 32]⟩ _ (.inr H1.out) hl2 hB1).mono ?_; rintro e w3 ⟨rfl, h3, hb3, hk3⟩; have pg3 : Blk w3 g 28 #[.int .i64 12, .string ⟨#[]⟩, .slice A1 0 c1, .bool false, .slice A2 0 c2, .slice (some ⟨kb, ko, none⟩) 2 c3] := hk3 g _ HPG.out (by simpa using hgb) (fun c fz e => by injection e with _ e _; exact absurd e (by decide)); have HB3 := Lib.hid (HBB.out.trans hb3); have HK3 := Lib.hid (HK1.out.trans hk3); have hB3 : B ≤ w3.heap.size := Nat.le_trans hB1 hb3.size; have H3 := Lib.hid h3; have HJ3 := Lib.hid (HJ.out.under HR.out HB3.out); clear x0 x1 x2 x3 x4 x5 h3 hk3 hb3; obtain ⟨x0, x1, x2, x3, x4, x5⟩ := pg3.six; obtain ⟨y0, y1, y2, y3, y4, y5⟩ := K6.out.keep (fun p v hp hc => (HB3.out.cell (by rw [hp]; exact hkB)).trans hc)))
 go_end0
 exact ⟨rfl, h4, HB3.out.trans hb4, HK3.out.trans hk4⟩
set_option maxHeartbeats 3200000 in
set_option maxRecDepth 100000 in
theorem atom_13 (t u : T) (iht : TermW t) (ihu : TermW u) : AtomW (P.nd 13 [t, u]) := by
 intro B b bs w R v h hR hIs hlen hBw
 have e : atomB (P.nd 13 [t, u]) = termB t false ++ ([32, 62, 61, 32] ++ termB u false) := by
  unfold atomB
  rw [P.body_cmp (by decide), P.bytes_append, P.bytes_cons, P.bytes_cons, P.bytes_cons]
  rfl
 rw [e] at hlen ⊢
 clear e
 simp only [List.length_append, List.length_cons, List.length_nil] at hlen
 have e : bs ++ Lib.byteCells (termB t false ++ ([32, 62, 61, 32] ++ termB u false)) = ((bs ++ Lib.byteCells (termB t false)) ++ Lib.strCells ⟨#[32, 62, 61, 32]⟩) ++ Lib.byteCells (termB u false) := by simp [Lib.byteCells, Lib.strCells]
 rw [e]
 clear e
 rw [P.nd, T.In] at h
 obtain ⟨A1, c1, A2, c2, A3, c3, rfl, _, _, hc3, hk⟩ := h
 obtain ⟨kb, ko, rfl, hRk, hI⟩ := hk (by simp)
 rw [T.Ins, T.Ins] at hI
 obtain ⟨⟨v0, v1, v2, v3, v4, v5, h6, hI0⟩, ⟨u0, u1, u2, u3, u4, u5, k6, hJ0⟩, _⟩ := hI
 have hkB := hR kb hRk
 have IHT := Lib.hid iht
 have IHU := Lib.hid ihu
 have H6 := Lib.hid h6
 have K6 := Lib.hid k6
 have HI := Lib.hid hI0
 have HJ := Lib.hid hJ0
 have HR := Lib.hid hR
 clear iht ihu h6 hI0 k6 hJ0 hR hk
 unfold tv
 simp only [List.length_nil, List.length_cons, Nat.zero_add, Nat.reduceAdd]
 go_enter Tryz.func80, Tryz.ntmps80
 go_upto_region 22 with (fail)
 obtain ⟨W, hW, ps, hbW⟩ := made_blk w #[.int .i64 13, .string ⟨#[]⟩, .slice A1 0 c1, .bool false, .slice A2 0 c2, .slice (some ⟨kb, ko, none⟩) 2 c3] 28
 obtain ⟨g, hg⟩ : ∃ g, g = w.heap.size := ⟨_, rfl⟩
 have HB : Hid (Lib.IsBuilder TW TB B b bs W) := Lib.hid (hW ▸ isB_alloc hIs _)
 have HK : Hid (Lib.OthersKept TB (some b) w W) := Lib.hid (hW ▸ (Lib.OthersKept.refl TB (some b) w).alloc _)
 have hBW : B ≤ W.heap.size := Nat.le_trans hBw hbW.size
 have HBW := Lib.hid (hbW.mono hBw)
 skip
 rw [← hW, ← hg]
 rw [← hg] at ps
 have hgb : g ≠ b := by
  have : b < w.heap.size := by rcases hIs with h' | h' <;> exact h'.lt
  omega
 clear hW hbW hIs hBw hg
 obtain ⟨x0, x1, x2, x3, x4, x5⟩ := ps.six
 obtain ⟨y0, y1, y2, y3, y4, y5⟩ := H6.out.keep (fun p v hp hc => (HBW.out.cell (by rw [hp]; exact hkB)).trans hc)
 have HI1 := Lib.hid (HI.out.under HR.out HBW.out)
 have hl1 : bs.length + (termB t false).length ≤ 140737488355328 := by omega
 have HPS := Lib.hid ps
 clear ps
 go_upto_region 23 with (go_at_call 115; refine (IHT.out B b bs false _ R _ HI1.out HR.out HB.out hl1 hBW).mono ?_; rintro e w1 ⟨rfl, h1, hb1, hk1⟩)
 have pg : Blk w1 g 28 #[.int .i64 13, .string ⟨#[]⟩, .slice A1 0 c1, .bool false, .slice A2 0 c2, .slice (some ⟨kb, ko, none⟩) 2 c3] := hk1 g _ HPS.out (by simpa using hgb) (fun c fz e => by injection e with _ e _; exact absurd e (by decide))
 have HBB := Lib.hid (HBW.out.trans hb1)
 have HK1 := Lib.hid (HK.out.trans hk1)
 have hB1 : B ≤ w1.heap.size := Nat.le_trans hBW hb1.size
 clear x0 x1 x2 x3 x4 x5 y0 y1 y2 y3 y4 y5
 obtain ⟨x0, x1, x2, x3, x4, x5⟩ := pg.six
 have H1 := Lib.hid h1
 have HPG := Lib.hid pg
 have hl2 : (bs ++ Lib.byteCells (termB t false)).length + (⟨#[32, 62, 61, 32]⟩ : ByteArray).size ≤ 140737488355328 := by rw [List.length_append, Lib.byteCells_length]; have : (⟨#[32, 62, 61, 32]⟩ : ByteArray).size = 4 := rfl; omega
 have hl3 : ((bs ++ Lib.byteCells (termB t false)) ++ Lib.strCells ⟨#[32, 62, 61, 32]⟩).length + (termB u false).length ≤ 140737488355328 := by rw [List.length_append, List.length_append, Lib.byteCells_length, Lib.strCells_length]; have : (⟨#[32, 62, 61, 32]⟩ : ByteArray).size = 4 := rfl; omega
 clear h1 hk1 hb1 pg
 go_wp2_with (first
  | (go_at_call 115; refine (IHU.out B b ((bs ++ Lib.byteCells (termB t false)) ++ Lib.strCells ⟨#[32, 62, 61, 32]⟩) false _ R _ HJ3.out HR.out (.inr H3.out) hl3 hB3).mono ?_; rintro e w4 ⟨rfl, h4, hb4, hk4⟩)
  | (go_at_call 78; refine (wstr_w B b (bs ++ Lib.byteCells (termB t false)) ⟨#[32, 62, 61, 32]⟩ _ (.inr H1.out) hl2 hB1).mono ?_; rintro e w3 ⟨rfl, h3, hb3, hk3⟩; have pg3 : Blk w3 g 28 #[.int .i64 13, .string ⟨#[]⟩, .slice A1 0 c1, .bool false, .slice A2 0 c2, .slice (some ⟨kb, ko, none⟩) 2 c3] := hk3 g _ HPG.out (by simpa using hgb) (fun c fz e => by injection e with _ e _; exact absurd e (by decide)); have HB3 := Lib.hid (HBB.out.trans hb3); have HK3 := Lib.hid (HK1.out.trans hk3); have hB3 : B ≤ w3.heap.size := Nat.le_trans hB1 hb3.size; have H3 := Lib.hid h3; have HJ3 := Lib.hid (HJ.out.under HR.out HB3.out); clear x0 x1 x2 x3 x4 x5 h3 hk3 hb3; obtain ⟨x0, x1, x2, x3, x4, x5⟩ := pg3.six; obtain ⟨y0, y1, y2, y3, y4, y5⟩ := K6.out.keep (fun p v hp hc => (HB3.out.cell (by rw [hp]; exact hkB)).trans hc)))
 go_end0
 exact ⟨rfl, h4, HB3.out.trans hb4, HK3.out.trans hk4⟩
set_option maxHeartbeats 3200000 in
set_option maxRecDepth 100000 in
theorem atom_14 (t u : T) (iht : TermW t) (ihu : TermW u) : AtomW (P.nd 14 [t, u]) := by
 intro B b bs w R v h hR hIs hlen hBw
 have e : atomB (P.nd 14 [t, u]) = termB t false ++ ([32, 62, 32] ++ termB u false) := by
  unfold atomB
  rw [P.body_cmp (by decide), P.bytes_append, P.bytes_cons, P.bytes_cons, P.bytes_cons]
  rfl
 rw [e] at hlen ⊢
 clear e
 simp only [List.length_append, List.length_cons, List.length_nil] at hlen
 have e : bs ++ Lib.byteCells (termB t false ++ ([32, 62, 32] ++ termB u false)) = ((bs ++ Lib.byteCells (termB t false)) ++ Lib.strCells ⟨#[32, 62, 32]⟩) ++ Lib.byteCells (termB u false) := by simp [Lib.byteCells, Lib.strCells]
 rw [e]
 clear e
 rw [P.nd, T.In] at h
 obtain ⟨A1, c1, A2, c2, A3, c3, rfl, _, _, hc3, hk⟩ := h
 obtain ⟨kb, ko, rfl, hRk, hI⟩ := hk (by simp)
 rw [T.Ins, T.Ins] at hI
 obtain ⟨⟨v0, v1, v2, v3, v4, v5, h6, hI0⟩, ⟨u0, u1, u2, u3, u4, u5, k6, hJ0⟩, _⟩ := hI
 have hkB := hR kb hRk
 have IHT := Lib.hid iht
 have IHU := Lib.hid ihu
 have H6 := Lib.hid h6
 have K6 := Lib.hid k6
 have HI := Lib.hid hI0
 have HJ := Lib.hid hJ0
 have HR := Lib.hid hR
 clear iht ihu h6 hI0 k6 hJ0 hR hk
 unfold tv
 simp only [List.length_nil, List.length_cons, Nat.zero_add, Nat.reduceAdd]
 go_enter Tryz.func80, Tryz.ntmps80
 go_upto_region 22 with (fail)
 obtain ⟨W, hW, ps, hbW⟩ := made_blk w #[.int .i64 14, .string ⟨#[]⟩, .slice A1 0 c1, .bool false, .slice A2 0 c2, .slice (some ⟨kb, ko, none⟩) 2 c3] 28
 obtain ⟨g, hg⟩ : ∃ g, g = w.heap.size := ⟨_, rfl⟩
 have HB : Hid (Lib.IsBuilder TW TB B b bs W) := Lib.hid (hW ▸ isB_alloc hIs _)
 have HK : Hid (Lib.OthersKept TB (some b) w W) := Lib.hid (hW ▸ (Lib.OthersKept.refl TB (some b) w).alloc _)
 have hBW : B ≤ W.heap.size := Nat.le_trans hBw hbW.size
 have HBW := Lib.hid (hbW.mono hBw)
 skip
 rw [← hW, ← hg]
 rw [← hg] at ps
 have hgb : g ≠ b := by
  have : b < w.heap.size := by rcases hIs with h' | h' <;> exact h'.lt
  omega
 clear hW hbW hIs hBw hg
 obtain ⟨x0, x1, x2, x3, x4, x5⟩ := ps.six
 obtain ⟨y0, y1, y2, y3, y4, y5⟩ := H6.out.keep (fun p v hp hc => (HBW.out.cell (by rw [hp]; exact hkB)).trans hc)
 have HI1 := Lib.hid (HI.out.under HR.out HBW.out)
 have hl1 : bs.length + (termB t false).length ≤ 140737488355328 := by omega
 have HPS := Lib.hid ps
 clear ps
 go_upto_region 23 with (go_at_call 115; refine (IHT.out B b bs false _ R _ HI1.out HR.out HB.out hl1 hBW).mono ?_; rintro e w1 ⟨rfl, h1, hb1, hk1⟩)
 have pg : Blk w1 g 28 #[.int .i64 14, .string ⟨#[]⟩, .slice A1 0 c1, .bool false, .slice A2 0 c2, .slice (some ⟨kb, ko, none⟩) 2 c3] := hk1 g _ HPS.out (by simpa using hgb) (fun c fz e => by injection e with _ e _; exact absurd e (by decide))
 have HBB := Lib.hid (HBW.out.trans hb1)
 have HK1 := Lib.hid (HK.out.trans hk1)
 have hB1 : B ≤ w1.heap.size := Nat.le_trans hBW hb1.size
 clear x0 x1 x2 x3 x4 x5 y0 y1 y2 y3 y4 y5
 obtain ⟨x0, x1, x2, x3, x4, x5⟩ := pg.six
 have H1 := Lib.hid h1
 have HPG := Lib.hid pg
 have hl2 : (bs ++ Lib.byteCells (termB t false)).length + (⟨#[32, 62, 32]⟩ : ByteArray).size ≤ 140737488355328 := by rw [List.length_append, Lib.byteCells_length]; have : (⟨#[32, 62, 32]⟩ : ByteArray).size = 3 := rfl; omega
 have hl3 : ((bs ++ Lib.byteCells (termB t false)) ++ Lib.strCells ⟨#[32, 62, 32]⟩).length + (termB u false).length ≤ 140737488355328 := by rw [List.length_append, List.length_append, Lib.byteCells_length, Lib.strCells_length]; have : (⟨#[32, 62, 32]⟩ : ByteArray).size = 3 := rfl; omega
 clear h1 hk1 hb1 pg
 go_wp2_with (first
  | (go_at_call 115; refine (IHU.out B b ((bs ++ Lib.byteCells (termB t false)) ++ Lib.strCells ⟨#[32, 62, 32]⟩) false _ R _ HJ3.out HR.out (.inr H3.out) hl3 hB3).mono ?_; rintro e w4 ⟨rfl, h4, hb4, hk4⟩)
  | (go_at_call 78; refine (wstr_w B b (bs ++ Lib.byteCells (termB t false)) ⟨#[32, 62, 32]⟩ _ (.inr H1.out) hl2 hB1).mono ?_; rintro e w3 ⟨rfl, h3, hb3, hk3⟩; have pg3 : Blk w3 g 28 #[.int .i64 14, .string ⟨#[]⟩, .slice A1 0 c1, .bool false, .slice A2 0 c2, .slice (some ⟨kb, ko, none⟩) 2 c3] := hk3 g _ HPG.out (by simpa using hgb) (fun c fz e => by injection e with _ e _; exact absurd e (by decide)); have HB3 := Lib.hid (HBB.out.trans hb3); have HK3 := Lib.hid (HK1.out.trans hk3); have hB3 : B ≤ w3.heap.size := Nat.le_trans hB1 hb3.size; have H3 := Lib.hid h3; have HJ3 := Lib.hid (HJ.out.under HR.out HB3.out); clear x0 x1 x2 x3 x4 x5 h3 hk3 hb3; obtain ⟨x0, x1, x2, x3, x4, x5⟩ := pg3.six; obtain ⟨y0, y1, y2, y3, y4, y5⟩ := K6.out.keep (fun p v hp hc => (HB3.out.cell (by rw [hp]; exact hkB)).trans hc)))
 go_end0
 exact ⟨rfl, h4, HB3.out.trans hb4, HK3.out.trans hk4⟩
end
end Go.Proofs.YthiadenmljbdaaaGreatDoor

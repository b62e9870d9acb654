/-
  q: the parts WDiv WLevel WPar.
-/
import Derived.Test.YthiadenmljbdaaaGreatDoorB25q
namespace Go.Proofs.YthiadenmljbdaaaGreatDoor
section
open Go.RowKit
open Go.Shelf
attribute [local go_sem] Oper.semAt_some
set_option maxHeartbeats 2000000 in
set_option maxRecDepth 100000 in
theorem atom_div (m : List Nat) (hml : m.length ≤ 1099511627776) (t : T) (ih : TermW t) : AtomW (.node 15 ⟨#[]⟩ [] false m [t]) := by
 intro B b bs w R v h hR hIs hlen hBw
 have e : atomB (.node 15 ⟨#[]⟩ [] false m [t]) = (N.txt (N.nv m) ++ [32, 100, 105, 118, 105, 100, 101, 115, 32]) ++ termB t false := by
  unfold atomB
  rw [P.body_div, P.bytes_cons, P.bytes_cons, P.bytes_cons, P.bytes_cons]
  rw [List.append_assoc]
  rfl
 rw [e] at hlen ⊢
 clear e
 rw [T.In] at h
 obtain ⟨A1, c1, A2, c2, A3, c3, rfl, _, hs2, hc3, hk⟩ := h
 obtain ⟨kb, ko, rfl, hRk, hI⟩ := hk (by simp)
 rw [T.Ins] at hI
 obtain ⟨⟨v0, v1, v2, v3, v4, v5, h6, hI0⟩, _⟩ := hI
 have hkB := hR kb hRk
 obtain ⟨S, hS⟩ : ∃ S : ByteArray, S = ⟨(N.txt (N.nv m)).toArray⟩ := ⟨_, rfl⟩
 have hsz : S.size = (N.txt (N.nv m)).length := by rw [hS]; simp [ByteArray.size]
 have HSC : Hid (Lib.strCells (S ++ ⟨#[32, 100, 105, 118, 105, 100, 101, 115, 32]⟩) = Lib.byteCells (N.txt (N.nv m) ++ [32, 100, 105, 118, 105, 100, 101, 115, 32])) := Lib.hid (by rw [hS]; simp [Lib.strCells, Lib.byteCells])
 have hsz2 : (S ++ ⟨#[32, 100, 105, 118, 105, 100, 101, 115, 32]⟩ : ByteArray).size = S.size + 9 := by rw [ByteArray.size_append]; rfl
 have hlS : bs.length + (S ++ ⟨#[32, 100, 105, 118, 105, 100, 101, 115, 32]⟩ : ByteArray).size ≤ 140737488355328 := by simp only [List.length_append, List.length_cons, List.length_nil] at hlen; omega
 have hl1 : (bs ++ Lib.strCells (S ++ ⟨#[32, 100, 105, 118, 105, 100, 101, 115, 32]⟩)).length + (termB t false).length ≤ 140737488355328 := by rw [List.length_append, Lib.strCells_length]; simp only [List.length_append, List.length_cons, List.length_nil] at hlen; omega
 have hcat : ¬ (9223372036854775807 < S.size + (⟨#[32, 100, 105, 118, 105, 100, 101, 115, 32]⟩ : ByteArray).size) := by have : (⟨#[32, 100, 105, 118, 105, 100, 101, 115, 32]⟩ : ByteArray).size = 9 := rfl; omega
 have hcat2 : ¬ (9223372036854775807 < S.size + 9) := by omega
 have HNT := Lib.hid (fun (w : World) (h : SlR w R A2 c2 m) => hS ▸ num_text h hml)
 have HS2 := Lib.hid hs2
 have HR := Lib.hid hR
 have IH := Lib.hid ih
 have H6 := Lib.hid h6
 have HI := Lib.hid hI0
 have HL1 := Lib.hid hl1
 clear hsz hlen hS hs2 hR ih h6 hI0 hk hl1 hsz2
 rw [Lib.byteCells_append, ← List.append_assoc, ← HSC.out]
 unfold tv
 simp only [List.length_nil, List.length_cons, Nat.zero_add]
 go_enter Tryz.func80, Tryz.ntmps80
 go_upto_region 8 with (fail)
 obtain ⟨W, hW, ps, hbW⟩ := made_blk w #[.int .i64 15, .string ⟨#[]⟩, .slice A1 0 c1, .bool false, .slice A2 m.length c2, .slice (some ⟨kb, ko, none⟩) 1 c3] 28
 obtain ⟨g, hg⟩ : ∃ g, g = w.heap.size := ⟨_, rfl⟩
 have HB : Hid (Lib.IsBuilder TW TB B b bs W) := Lib.hid (hW ▸ isB_alloc hIs _)
 have HK : Hid (Lib.OthersKept TB (some b) w W) := Lib.hid (hW ▸ (Lib.OthersKept.refl TB (some b) w).alloc _)
 have hBW : B ≤ W.heap.size := Nat.le_trans hBw hbW.size
 have HBW := Lib.hid (hbW.mono hBw)
 have HS3 := Lib.hid (HS2.out.under HR.out HBW.out)
 rw [← hW, ← hg]
 rw [← hg] at ps
 have hgb : g ≠ b := by
  have : b < w.heap.size := by rcases hIs with h' | h' <;> exact h'.lt
  omega
 clear hW hbW hIs hBw hg
 obtain ⟨x0, x1, x2, x3, x4, x5⟩ := ps.six
 refine wp_region_held_drew (S := fun w' => w'.cell? ⟨g, 3, none⟩ = some (.bool false) ∧ w'.cell? ⟨g, 4, none⟩ = some (.slice A2 m.length c2)) (by kernel_rfl) (by exact ⟨x3, x4⟩) (fun hHeld => ?_)
 refine take_at 0 (by kernel_rfl) (by kernel_rfl) (by kernel_rfl) (fun _ _ d _ _ h => by cases d <;> exact h) ⟨_, rfl⟩ (by assumption) (fun o ho => ?_)
 simp only [zg1, zg3, zg4] at ho
 subst ho
 refine ⟨?_, ⟨by rfl, ?_⟩, ?_⟩
 rotate_left
 · intro w hSw
   (try dsimp only at hSw)
   obtain ⟨hS1, hS2⟩ := hSw
   (go_simp; try with_reducible rfl)
 (try simp only [Act.put, zs1, zs2, zs3])
 refine take_at 1 (by kernel_rfl) (by kernel_rfl) (by kernel_rfl) (fun _ _ d _ _ h => by cases d <;> exact h) ⟨_, rfl⟩ (by assumption) (fun o ho => ?_)
 simp only [zg1, zg2, zg3, zg4] at ho
 subst ho
 refine ⟨?_, ⟨by rfl, ?_⟩, ?_⟩
 rotate_left
 · intro w hSw
   (try dsimp only at hSw)
   obtain ⟨hS1, hS2⟩ := hSw
   (go_simp; try with_reducible rfl)
 (try simp only [Act.put, zs1, zs2, zs3])
 refine take_at 2 (by kernel_rfl) (by kernel_rfl) (by kernel_rfl) (fun _ _ d _ _ h => by cases d <;> exact h) ⟨_, rfl⟩ (by assumption) (fun o ho => ?_)
 simp only [zg1, zg2, zg3, zg4] at ho
 subst ho
 refine ⟨?_, ⟨by rfl, ?_⟩, ?_⟩
 rotate_left
 · intro w hSw
   (try dsimp only at hSw)
   obtain ⟨hS1, hS2⟩ := hSw
   (go_simp; try with_reducible rfl)
 (try simp only [Act.put, zs1, zs2, zs3])
 refine take_at 3 (by kernel_rfl) (by kernel_rfl) (by kernel_rfl) (fun _ _ d _ _ h => by cases d <;> exact h) ⟨_, rfl⟩ (by assumption) (fun o ho => ?_)
 simp only [zg1, zg2, zg3, zg4] at ho
 subst ho
 refine ⟨?_, ⟨by rfl, ?_⟩, ?_⟩
 rotate_left
 · intro w hSw
   (try dsimp only at hSw)
   obtain ⟨hS1, hS2⟩ := hSw
   (go_simp; try with_reducible rfl)
 (try simp only [Act.put, zs1, zs2, zs3])
 refine take_at 4 (by kernel_rfl) (by kernel_rfl) (by kernel_rfl) (fun _ _ d _ _ h => by cases d <;> exact h) ⟨_, rfl⟩ (by assumption) (fun o ho => ?_)
 simp only [zg1, zg2, zg3, zg4] at ho
 subst ho
 refine ⟨?_, ⟨by rfl, ?_⟩, ?_⟩
 rotate_left
 · intro w hSw
   (try dsimp only at hSw)
   obtain ⟨hS1, hS2⟩ := hSw
   (go_simp; try with_reducible rfl)
 (try simp only [Act.put, zs1, zs2, zs3])
 refine wpAnyH_ready (rs := [5]) (by kernel_rfl) (by simp) ?_
 refine ready_at 5 ⟨_, rfl⟩ (fun o ho K hK => ?_) AllReadyH.nil
 simp only [zg1, zg2, zg3, zg4] at ho
 subst ho
 go_simp
 go_at_call 114
 refine (HNT.out W.drew (HS3.out.keep (fun _ _ _ h => h) (fun _ h => h))).mono ?_
 rintro e w1 ⟨rfl, hb1⟩
 have hB1 : B ≤ w1.heap.size := Nat.le_trans hBW hb1.size
 have HB1 := Lib.hid (isB_below (show Lib.IsBuilder TW TB B b bs W.drew from HB.out) hb1)
 have HBW1 := Lib.hid ((HBW.out.drew).trans (hb1.mono hBW))
 have HK1 := Lib.hid ((HK.out.drew).trans (ok_below hb1))
 have pg1 : Blk w1 g 28 #[.int .i64 15, .string ⟨#[]⟩, .slice A1 0 c1, .bool false, .slice A2 m.length c2, .slice (some ⟨kb, ko, none⟩) 1 c3] := ok_below hb1 g _ ps (by simpa using hgb) (fun c fz e => by injection e with _ e _; exact absurd e (by decide))
 clear hb1
 refine hK.out _ _ ?_ (fun hHeld2 => ?_)
 · obtain ⟨_, _, _, y3, y4, _⟩ := pg1.six
   exact ⟨y3, y4⟩
 replace hHeld := hHeld2
 clear hK K hHeld2
 (try simp only [zs1, zs2, zs3])
 refine take_at 6 (by kernel_rfl) (by kernel_rfl) (by kernel_rfl) (fun _ _ d _ _ h => by cases d <;> exact h) ⟨_, rfl⟩ (by assumption) (fun o ho => ?_)
 simp only [zg1, zg2, zg3, zg4] at ho
 subst ho
 refine ⟨?_, ⟨by rfl, ?_⟩, ?_⟩
 rotate_left
 · intro w hSw
   (try dsimp only at hSw)
   obtain ⟨hS1, hS2⟩ := hSw
   (go_simp; try with_reducible rfl)
 (try simp only [Act.put, zs1, zs2, zs3])
 refine wpAnyH_ready (rs := [7]) (by kernel_rfl) (by simp) ?_
 refine ready_at 7 ⟨_, rfl⟩ (fun o ho K hK => ?_) AllReadyH.nil
 simp only [zg1, zg2, zg3, zg4] at ho
 subst ho
 go_simp
 go_at_call 78
 refine (wstr_w B b bs _ w1 HB1.out ?_ hB1).mono ?_
 · exact hlS
 rintro e w2 ⟨rfl, h2, hb2, hk2⟩
 have pg2 : Blk w2 g 28 #[.int .i64 15, .string ⟨#[]⟩, .slice A1 0 c1, .bool false, .slice A2 m.length c2, .slice (some ⟨kb, ko, none⟩) 1 c3] := hk2 g _ pg1 (by simpa using hgb) (fun c fz e => by injection e with _ e _; exact absurd e (by decide))
 have HBB := Lib.hid ((HBW1.out).trans hb2)
 have HK2 := Lib.hid ((HK1.out).trans hk2)
 have hB2 : B ≤ w2.heap.size := Nat.le_trans hB1 hb2.size
 have H2 := Lib.hid h2
 clear h2 hb2 hk2
 refine hK.out _ _ ?_ (fun hHeld2 => ?_)
 · obtain ⟨_, _, _, y3, y4, _⟩ := pg2.six
   exact ⟨y3, y4⟩
 replace hHeld := hHeld2
 clear hK K hHeld2
 (try simp only [zs1, zs2, zs3])
 refine wpAnyH_done (by kernel_rfl) ?_ _
 clear hHeld x0 x1 x2 x3 x4 x5
 have HI1 := Lib.hid (HI.out.under HR.out HBB.out)
 obtain ⟨y0, y1, y2, y3, y4, y5⟩ := H6.out.keep (fun p v hp hc => (HBB.out.cell (by rw [hp]; exact hkB)).trans hc)
 obtain ⟨x0, x1, x2, x3, x4, x5⟩ := pg2.six
 clear ps pg1 pg2
 go_wp2_with (go_at_call 115; refine (IH.out B b (bs ++ Lib.strCells (S ++ ⟨#[32, 100, 105, 118, 105, 100, 101, 115, 32]⟩)) false _ R _ HI1.out HR.out (.inr H2.out) HL1.out hB2).mono ?_; rintro e w3 ⟨rfl, h3, hb3, hk3⟩)
 refine bodyPost_ret (results_none rfl _ _ _) rfl ?_
 exact ⟨rfl, h3, HBB.out.trans hb3, HK2.out.trans hk3⟩
theorem atom_cmp (k : Int) (hk : 9 ≤ k ∧ k ≤ 14) (t u : T) (iht : TermW t) (ihu : TermW u) : AtomW (P.nd k [t, u]) := by
 have : k = 9 ∨ k = 10 ∨ k = 11 ∨ k = 12 ∨ k = 13 ∨ k = 14 := by omega
 rcases this with rfl | rfl | rfl | rfl | rfl | rfl
 · exact atom_9 t u iht ihu
 · exact atom_10 t u iht ihu
 · exact atom_11 t u iht ihu
 · exact atom_12 t u iht ihu
 · exact atom_13 t u iht ihu
 · exact atom_14 t u iht ihu
end
section
open Go.RowKit
open Go.Shelf
attribute [local go_sem] Oper.semAt_some
abbrev ta (k : Int) (nm : ByteArray) (A1 : Option Addr) (n1 c1 : Nat) (ng : Bool) (A2 : Option Addr) (n2 c2 : Nat) (A3 : Option Addr) (n3 c3 : Nat) : Array Value :=
 #[.int .i64 k, .string nm, .slice A1 n1 c1, .bool ng, .slice A2 n2 c2, .slice A3 n3 c3]
set_option maxHeartbeats 800000 in
set_option maxRecDepth 100000 in
theorem level_7 (nm : ByteArray) (A1 : Option Addr) (n1 c1 : Nat) (ng : Bool) (A2 : Option Addr) (n2 c2 : Nat) (A3 : Option Addr) (n3 c3 : Nat) (w : World) :
    Calls Tryz.prog 75 #[.agg (ta 7 nm A1 n1 c1 ng A2 n2 c2 A3 n3 c3)] w fun e w' => e = .returned (.int .i64 6) ∧ Below w.heap.size w w' := by
  go_enter Tryz.func75, Tryz.ntmps75
  go_wp2_with fail
  go_ret
  exact ⟨rfl, below_alloc1 _ _⟩
set_option maxHeartbeats 800000 in
set_option maxRecDepth 100000 in
theorem level_8 (nm : ByteArray) (A1 : Option Addr) (n1 c1 : Nat) (ng : Bool) (A2 : Option Addr) (n2 c2 : Nat) (A3 : Option Addr) (n3 c3 : Nat) (w : World) :
    Calls Tryz.prog 75 #[.agg (ta 8 nm A1 n1 c1 ng A2 n2 c2 A3 n3 c3)] w fun e w' => e = .returned (.int .i64 6) ∧ Below w.heap.size w w' := by
  go_enter Tryz.func75, Tryz.ntmps75
  go_wp2_with fail
  go_ret
  exact ⟨rfl, below_alloc1 _ _⟩
set_option maxHeartbeats 800000 in
set_option maxRecDepth 100000 in
theorem level_9 (nm : ByteArray) (A1 : Option Addr) (n1 c1 : Nat) (ng : Bool) (A2 : Option Addr) (n2 c2 : Nat) (A3 : Option Addr) (n3 c3 : Nat) (w : World) :
    Calls Tryz.prog 75 #[.agg (ta 9 nm A1 n1 c1 ng A2 n2 c2 A3 n3 c3)] w fun e w' => e = .returned (.int .i64 6) ∧ Below w.heap.size w w' := by
  go_enter Tryz.func75, Tryz.ntmps75
  go_wp2_with fail
  go_ret
  exact ⟨rfl, below_alloc1 _ _⟩
set_option maxHeartbeats 800000 in
set_option maxRecDepth 100000 in
theorem level_10 (nm : ByteArray) (A1 : Option Addr) (n1 c1 : Nat) (ng : Bool) (A2 : Option Addr) (n2 c2 : Nat) (A3 : Option Addr) (n3 c3 : Nat) (w : World) :
    Calls Tryz.prog 75 #[.agg (ta 10 nm A1 n1 c1 ng A2 n2 c2 A3 n3 c3)] w fun e w' => e = .returned (.int .i64 6) ∧ Below w.heap.size w w' := by
  go_enter Tryz.func75, Tryz.ntmps75
  go_wp2_with fail
  go_ret
  exact ⟨rfl, below_alloc1 _ _⟩
set_option maxHeartbeats 800000 in
set_option maxRecDepth 100000 in
theorem level_11 (nm : ByteArray) (A1 : Option Addr) (n1 c1 : Nat) (ng : Bool) (A2 : Option Addr) (n2 c2 : Nat) (A3 : Option Addr) (n3 c3 : Nat) (w : World) :
    Calls Tryz.prog 75 #[.agg (ta 11 nm A1 n1 c1 ng A2 n2 c2 A3 n3 c3)] w fun e w' => e = .returned (.int .i64 6) ∧ Below w.heap.size w w' := by
  go_enter Tryz.func75, Tryz.ntmps75
  go_wp2_with fail
  go_ret
  exact ⟨rfl, below_alloc1 _ _⟩
set_option maxHeartbeats 800000 in
set_option maxRecDepth 100000 in
theorem level_12 (nm : ByteArray) (A1 : Option Addr) (n1 c1 : Nat) (ng : Bool) (A2 : Option Addr) (n2 c2 : Nat) (A3 : Option Addr) (n3 c3 : Nat) (w : World) :
    Calls Tryz.prog 75 #[.agg (ta 12 nm A1 n1 c1 ng A2 n2 c2 A3 n3 c3)] w fun e w' => e = .returned (.int .i64 6) ∧ Below w.heap.size w w' := by
  go_enter Tryz.func75, Tryz.ntmps75
  go_wp2_with fail
  go_ret
  exact ⟨rfl, below_alloc1 _ _⟩
set_option maxHeartbeats 800000 in
set_option maxRecDepth 100000 in
theorem level_13 (nm : ByteArray) (A1 : Option Addr) (n1 c1 : Nat) (ng : Bool) (A2 : Option Addr) (n2 c2 : Nat) (A3 : Option Addr) (n3 c3 : Nat) (w : World) :
    Calls Tryz.prog 75 #[.agg (ta 13 nm A1 n1 c1 ng A2 n2 c2 A3 n3 c3)] w fun e w' => e = .returned (.int .i64 6) ∧ Below w.heap.size w w' := by
  go_enter Tryz.func75, Tryz.ntmps75
  go_wp2_with fail
  go_ret
  exact ⟨rfl, below_alloc1 _ _⟩
set_option maxHeartbeats 800000 in
set_option maxRecDepth 100000 in
theorem level_14 (nm : ByteArray) (A1 : Option Addr) (n1 c1 : Nat) (ng : Bool) (A2 : Option Addr) (n2 c2 : Nat) (A3 : Option Addr) (n3 c3 : Nat) (w : World) :
    Calls Tryz.prog 75 #[.agg (ta 14 nm A1 n1 c1 ng A2 n2 c2 A3 n3 c3)] w fun e w' => e = .returned (.int .i64 6) ∧ Below w.heap.size w w' := by
  go_enter Tryz.func75, Tryz.ntmps75
  go_wp2_with fail
  go_ret
  exact ⟨rfl, below_alloc1 _ _⟩
set_option maxHeartbeats 800000 in
set_option maxRecDepth 100000 in
theorem level_15 (nm : ByteArray) (A1 : Option Addr) (n1 c1 : Nat) (ng : Bool) (A2 : Option Addr) (n2 c2 : Nat) (A3 : Option Addr) (n3 c3 : Nat) (w : World) :
    Calls Tryz.prog 75 #[.agg (ta 15 nm A1 n1 c1 ng A2 n2 c2 A3 n3 c3)] w fun e w' => e = .returned (.int .i64 6) ∧ Below w.heap.size w w' := by
  go_enter Tryz.func75, Tryz.ntmps75
  go_wp2_with fail
  go_ret
  exact ⟨rfl, below_alloc1 _ _⟩
set_option maxHeartbeats 800000 in
set_option maxRecDepth 100000 in
theorem level_16 (nm : ByteArray) (A1 : Option Addr) (n1 c1 : Nat) (ng : Bool) (A2 : Option Addr) (n2 c2 : Nat) (A3 : Option Addr) (n3 c3 : Nat) (w : World) :
    Calls Tryz.prog 75 #[.agg (ta 16 nm A1 n1 c1 ng A2 n2 c2 A3 n3 c3)] w fun e w' => e = .returned (.int .i64 5) ∧ Below w.heap.size w w' := by
  go_enter Tryz.func75, Tryz.ntmps75
  go_wp2_with fail
  go_ret
  exact ⟨rfl, below_alloc1 _ _⟩
set_option maxHeartbeats 800000 in
set_option maxRecDepth 100000 in
theorem level_17 (nm : ByteArray) (A1 : Option Addr) (n1 c1 : Nat) (ng : Bool) (A2 : Option Addr) (n2 c2 : Nat) (A3 : Option Addr) (n3 c3 : Nat) (w : World) :
    Calls Tryz.prog 75 #[.agg (ta 17 nm A1 n1 c1 ng A2 n2 c2 A3 n3 c3)] w fun e w' => e = .returned (.int .i64 4) ∧ Below w.heap.size w w' := by
  go_enter Tryz.func75, Tryz.ntmps75
  go_wp2_with fail
  go_ret
  exact ⟨rfl, below_alloc1 _ _⟩
set_option maxHeartbeats 800000 in
set_option maxRecDepth 100000 in
theorem level_18 (nm : ByteArray) (A1 : Option Addr) (n1 c1 : Nat) (ng : Bool) (A2 : Option Addr) (n2 c2 : Nat) (A3 : Option Addr) (n3 c3 : Nat) (w : World) :
    Calls Tryz.prog 75 #[.agg (ta 18 nm A1 n1 c1 ng A2 n2 c2 A3 n3 c3)] w fun e w' => e = .returned (.int .i64 3) ∧ Below w.heap.size w w' := by
  go_enter Tryz.func75, Tryz.ntmps75
  go_wp2_with fail
  go_ret
  exact ⟨rfl, below_alloc1 _ _⟩
set_option maxHeartbeats 800000 in
set_option maxRecDepth 100000 in
theorem level_19 (nm : ByteArray) (A1 : Option Addr) (n1 c1 : Nat) (ng : Bool) (A2 : Option Addr) (n2 c2 : Nat) (A3 : Option Addr) (n3 c3 : Nat) (w : World) :
    Calls Tryz.prog 75 #[.agg (ta 19 nm A1 n1 c1 ng A2 n2 c2 A3 n3 c3)] w fun e w' => e = .returned (.int .i64 2) ∧ Below w.heap.size w w' := by
  go_enter Tryz.func75, Tryz.ntmps75
  go_wp2_with fail
  go_ret
  exact ⟨rfl, below_alloc1 _ _⟩
set_option maxHeartbeats 800000 in
set_option maxRecDepth 100000 in
theorem level_20 (nm : ByteArray) (A1 : Option Addr) (n1 c1 : Nat) (ng : Bool) (A2 : Option Addr) (n2 c2 : Nat) (A3 : Option Addr) (n3 c3 : Nat) (w : World) :
    Calls Tryz.prog 75 #[.agg (ta 20 nm A1 n1 c1 ng A2 n2 c2 A3 n3 c3)] w fun e w' => e = .returned (.int .i64 1) ∧ Below w.heap.size w w' := by
  go_enter Tryz.func75, Tryz.ntmps75
  go_wp2_with fail
  go_ret
  exact ⟨rfl, below_alloc1 _ _⟩
set_option maxHeartbeats 800000 in
set_option maxRecDepth 100000 in
theorem level_21 (nm : ByteArray) (A1 : Option Addr) (n1 c1 : Nat) (ng : Bool) (A2 : Option Addr) (n2 c2 : Nat) (A3 : Option Addr) (n3 c3 : Nat) (w : World) :
    Calls Tryz.prog 75 #[.agg (ta 21 nm A1 n1 c1 ng A2 n2 c2 A3 n3 c3)] w fun e w' => e = .returned (.int .i64 5) ∧ Below w.heap.size w w' := by
  go_enter Tryz.func75, Tryz.ntmps75
  go_wp2_with fail
  go_ret
  exact ⟨rfl, below_alloc1 _ _⟩
set_option maxHeartbeats 800000 in
set_option maxRecDepth 100000 in
theorem level_22 (nm : ByteArray) (A1 : Option Addr) (n1 c1 : Nat) (ng : Bool) (A2 : Option Addr) (n2 c2 : Nat) (A3 : Option Addr) (n3 c3 : Nat) (w : World) :
    Calls Tryz.prog 75 #[.agg (ta 22 nm A1 n1 c1 ng A2 n2 c2 A3 n3 c3)] w fun e w' => e = .returned (.int .i64 5) ∧ Below w.heap.size w w' := by
  go_enter Tryz.func75, Tryz.ntmps75
  go_wp2_with fail
  go_ret
  exact ⟨rfl, below_alloc1 _ _⟩
end
section
open Go.RowKit
open Go.Shelf
attribute [local go_sem] Oper.semAt_some
def formB (least : Nat) (last : Bool) (t : T) : List UInt8 := P.bytes (P.wrap least last (P.pt t))
def bodyB (last : Bool) (t : T) : List UInt8 := P.bytes (P.body t last)
def FormW (t : T) : Prop := ∀ (B b : Nat) (bs : List Value) (least : Nat) (last : Bool) (w : World) (R : Nat → Prop) (v : Value), least ≤ 5 → T.In w R t v → (∀ g, R g → g < B) → Lib.IsBuilder TW TB B b bs w →
    bs.length + (formB least last t).length ≤ 140737488355328 → B ≤ w.heap.size →
    Calls Tryz.prog 43 #[.pointer (some ⟨b, 0, none⟩), v, .int .i64 (least : Nat), .bool last] w fun e w' => e = .returned (.tuple #[]) ∧ (Lib.BuilderAt TW TB B b (.pointer (some ⟨b, 0, none⟩)) (bs ++ Lib.byteCells (formB least last t)) w' ∧ Below B w w' ∧ Lib.OthersKept TB (some b) w w')
def BodyW (t : T) : Prop := ∀ (B b : Nat) (bs : List Value) (least : Nat) (last : Bool) (w : World) (R : Nat → Prop) (v : Value), least ≤ 5 → ¬ (P.level t.k < least ∨ (P.binds t.k = true ∧ last = false)) → T.In w R t v → (∀ g, R g → g < B) → Lib.IsBuilder TW TB B b bs w →
    bs.length + (bodyB last t).length ≤ 140737488355328 → B ≤ w.heap.size →
    Calls Tryz.prog 43 #[.pointer (some ⟨b, 0, none⟩), v, .int .i64 (least : Nat), .bool last] w fun e w' => e = .returned (.tuple #[]) ∧ (Lib.BuilderAt TW TB B b (.pointer (some ⟨b, 0, none⟩)) (bs ++ Lib.byteCells (bodyB last t)) w' ∧ Below B w w' ∧ Lib.OthersKept TB (some b) w w')
theorem formB_body {least : Nat} {last : Bool} {t : T} (h : ¬ (P.level t.k < least ∨ (P.binds t.k = true ∧ last = false))) : formB least last t = bodyB last t := by
 unfold formB P.wrap
 rw [if_neg (by exact h)]
 rfl
theorem formB_par {least : Nat} {last : Bool} {t : T} (h : P.level t.k < least ∨ (P.binds t.k = true ∧ last = false)) : formB least last t = 40 :: (bodyB true t ++ [41]) := by
 unfold formB P.wrap
 rw [if_pos (by exact h)]
 unfold P.par
 rw [P.bytes_cons, P.bytes_append, P.bytes_cons]
 rfl
theorem below_IsB {B b : Nat} {bs : List Value} {w : World} (h : Lib.IsBuilder TW TB B b bs w) : b < w.heap.size := by rcases h with h | h <;> exact h.lt
set_option maxHeartbeats 3200000 in
set_option maxRecDepth 100000 in
theorem form_par_17 (t : T) (hk : t.k = 17) (hw : BodyW t) (B b : Nat) (bs : List Value) (least : Nat) (hl : 4 < least) (last : Bool) (w : World) (R : Nat → Prop) (v : Value) (h : T.In w R t v) (hR : ∀ g, R g → g < B) (hIs : Lib.IsBuilder TW TB B b bs w)
    (hlen : bs.length + (bodyB true t).length + 2 ≤ 140737488355328) (hBw : B ≤ w.heap.size) :
    Calls Tryz.prog 43 #[.pointer (some ⟨b, 0, none⟩), v, .int .i64 (least : Nat), .bool last] w fun e w' => e = .returned (.tuple #[]) ∧ (Lib.BuilderAt TW TB B b (.pointer (some ⟨b, 0, none⟩)) (((bs ++ [Value.int .u8 40]) ++ Lib.byteCells (bodyB true t)) ++ [Value.int .u8 41]) w' ∧ Below B w w' ∧ Lib.OthersKept TB (some b) w w') := by
  have HW := Lib.hid hw
  have hnp : ¬ (P.level t.k < 1 ∨ (P.binds t.k = true ∧ true = false)) := by rw [hk]; decide
  have HNP := Lib.hid hnp
  clear hw hnp
  have d1 : decide ((4 : Int) < (least : Int)) = true := by simp; omega
  have hIn := h
  obtain ⟨A1, c1, A2, c2, A3, c3, rfl, _⟩ := h.form
  obtain ⟨nm, hnm⟩ : ∃ x, t.nm = x := ⟨_, rfl⟩
  obtain ⟨ng, hng⟩ : ∃ x, t.ng = x := ⟨_, rfl⟩
  obtain ⟨n1, hn1⟩ : ∃ x, t.ns.length = x := ⟨_, rfl⟩
  obtain ⟨n2, hn2⟩ : ∃ x, t.mg.length = x := ⟨_, rfl⟩
  obtain ⟨n3, hn3⟩ : ∃ x, t.ks.length = x := ⟨_, rfl⟩
  rw [hk, hnm, hng, hn1, hn2, hn3] at hIn ⊢
  clear h hnm hng hn1 hn2 hn3
  unfold tv at hIn ⊢
  go_enter Tryz.func43, Tryz.ntmps43
  go_upto_region 1 with (fail)
  obtain ⟨W, hW, ps, hbW⟩ := made_blk w #[.int .i64 17, .string nm, .slice A1 n1 c1, .bool ng, .slice A2 n2 c2, .slice A3 n3 c3] 28
  obtain ⟨g, hg⟩ : ∃ g, g = w.heap.size := ⟨_, rfl⟩
  have HB : Hid (Lib.IsBuilder TW TB B b bs W) := Lib.hid (hW ▸ isB_alloc hIs _)
  have HK : Hid (Lib.OthersKept TB (some b) w W) := Lib.hid (hW ▸ (Lib.OthersKept.refl TB (some b) w).alloc _)
  have hBW : B ≤ W.heap.size := Nat.le_trans hBw hbW.size
  have HBW := Lib.hid (hbW.mono hBw)
  have HI1 := Lib.hid (hIn.under hR (hbW.mono hBw))
  have HR := Lib.hid hR
  rw [← hW, ← hg]
  rw [← hg] at ps
  have hgb : g ≠ b := by have := below_IsB hIs; omega
  clear hW hbW hIs hBw hg hIn hR
  obtain ⟨x0, x1, x2, x3, x4, x5⟩ := ps.six
  go_upto_region 3 with (go_at_call 75; refine (level_17 nm A1 n1 c1 ng A2 n2 c2 A3 n3 c3 W).mono ?_; rintro e w1 ⟨rfl, hb1⟩; have pg1 : Blk w1 g 28 #[.int .i64 17, .string nm, .slice A1 n1 c1, .bool ng, .slice A2 n2 c2, .slice A3 n3 c3] := ok_below hb1 g _ ps (by simpa using hgb) (fun c fz e => by injection e with _ e _; exact absurd e (by decide)); have HB1 := Lib.hid (isB_below HB.out hb1); have HBW1 := Lib.hid (HBW.out.trans (hb1.mono hBW)); have HK1 := Lib.hid (HK.out.trans (ok_below hb1)); have hB1 : B ≤ w1.heap.size := Nat.le_trans hBW hb1.size; have HI2 := Lib.hid (HI1.out.under HR.out (hb1.mono hBW)); clear x0 x1 x2 x3 x4 x5 hb1; obtain ⟨x0, x1, x2, x3, x4, x5⟩ := pg1.six)
  go_upto_region 4 with (go_at_call 76; refine (wbyte_w B b bs 40 _ HB1.out (by omega) hB1).mono ?_; rintro e w2 ⟨rfl, h2, hb2, hk2⟩)
  have pg2 : Blk w2 g 28 #[.int .i64 17, .string nm, .slice A1 n1 c1, .bool ng, .slice A2 n2 c2, .slice A3 n3 c3] := hk2 g _ pg1 (by simpa using hgb) (fun c fz e => by injection e with _ e _; exact absurd e (by decide))
  have HBW2 := Lib.hid (HBW1.out.trans hb2)
  have HK2 := Lib.hid (HK1.out.trans hk2)
  have hB2 : B ≤ w2.heap.size := Nat.le_trans hB1 hb2.size
  have HI3 := Lib.hid (HI2.out.under HR.out hb2)
  have H2 := Lib.hid h2
  have hl2 : (bs ++ [Value.int .u8 40]).length + (bodyB true t).length ≤ 140737488355328 := by rw [List.length_append]; simp only [List.length_cons, List.length_nil]; omega
  have hl3 : ((bs ++ [Value.int .u8 40]) ++ Lib.byteCells (bodyB true t)).length + 1 ≤ 140737488355328 := by rw [List.length_append, List.length_append, Lib.byteCells_length]; simp only [List.length_cons, List.length_nil]; omega
  clear x0 x1 x2 x3 x4 x5 h2 hb2 hk2 ps pg1
  obtain ⟨x0, x1, x2, x3, x4, x5⟩ := pg2.six
  go_upto_region 5 with (go_at_call 43; refine (HW.out B b (bs ++ [Value.int .u8 40]) 1 true _ R _ (by decide) HNP.out HI3.out HR.out (.inr H2.out) hl2 hB2).mono ?_; rintro e w3 ⟨rfl, h3, hb3, hk3⟩)
  go_wp2_with (go_at_call 76; refine (wbyte_w B b _ 41 _ (.inr h3) hl3 (Nat.le_trans hB2 hb3.size)).mono ?_; rintro e w4 ⟨rfl, h4, hb4, hk4⟩)
  refine bodyPost_ret (results_none rfl _ _ _) rfl ?_
  exact ⟨rfl, h4, (HBW2.out.trans hb3).trans hb4, (HK2.out.trans hk3).trans hk4⟩
set_option maxHeartbeats 3200000 in
set_option maxRecDepth 100000 in
theorem form_par_18 (t : T) (hk : t.k = 18) (hw : BodyW t) (B b : Nat) (bs : List Value) (least : Nat) (hl : 3 < least) (last : Bool) (w : World) (R : Nat → Prop) (v : Value) (h : T.In w R t v) (hR : ∀ g, R g → g < B) (hIs : Lib.IsBuilder TW TB B b bs w)
    (hlen : bs.length + (bodyB true t).length + 2 ≤ 140737488355328) (hBw : B ≤ w.heap.size) :
    Calls Tryz.prog 43 #[.pointer (some ⟨b, 0, none⟩), v, .int .i64 (least : Nat), .bool last] w fun e w' => e = .returned (.tuple #[]) ∧ (Lib.BuilderAt TW TB B b (.pointer (some ⟨b, 0, none⟩)) (((bs ++ [Value.int .u8 40]) ++ Lib.byteCells (bodyB true t)) ++ [Value.int .u8 41]) w' ∧ Below B w w' ∧ Lib.OthersKept TB (some b) w w') := by
  have HW := Lib.hid hw
  have hnp : ¬ (P.level t.k < 1 ∨ (P.binds t.k = true ∧ true = false)) := by rw [hk]; decide
  have HNP := Lib.hid hnp
  clear hw hnp
  have d1 : decide ((3 : Int) < (least : Int)) = true := by simp; omega
  have hIn := h
  obtain ⟨A1, c1, A2, c2, A3, c3, rfl, _⟩ := h.form
  obtain ⟨nm, hnm⟩ : ∃ x, t.nm = x := ⟨_, rfl⟩
  obtain ⟨ng, hng⟩ : ∃ x, t.ng = x := ⟨_, rfl⟩
  obtain ⟨n1, hn1⟩ : ∃ x, t.ns.length = x := ⟨_, rfl⟩
  obtain ⟨n2, hn2⟩ : ∃ x, t.mg.length = x := ⟨_, rfl⟩
  obtain ⟨n3, hn3⟩ : ∃ x, t.ks.length = x := ⟨_, rfl⟩
  rw [hk, hnm, hng, hn1, hn2, hn3] at hIn ⊢
  clear h hnm hng hn1 hn2 hn3
  unfold tv at hIn ⊢
  go_enter Tryz.func43, Tryz.ntmps43
  go_upto_region 1 with (fail)
  obtain ⟨W, hW, ps, hbW⟩ := made_blk w #[.int .i64 18, .string nm, .slice A1 n1 c1, .bool ng, .slice A2 n2 c2, .slice A3 n3 c3] 28
  obtain ⟨g, hg⟩ : ∃ g, g = w.heap.size := ⟨_, rfl⟩
  have HB : Hid (Lib.IsBuilder TW TB B b bs W) := Lib.hid (hW ▸ isB_alloc hIs _)
  have HK : Hid (Lib.OthersKept TB (some b) w W) := Lib.hid (hW ▸ (Lib.OthersKept.refl TB (some b) w).alloc _)
  have hBW : B ≤ W.heap.size := Nat.le_trans hBw hbW.size
  have HBW := Lib.hid (hbW.mono hBw)
  have HI1 := Lib.hid (hIn.under hR (hbW.mono hBw))
  have HR := Lib.hid hR
  rw [← hW, ← hg]
  rw [← hg] at ps
  have hgb : g ≠ b := by have := below_IsB hIs; omega
  clear hW hbW hIs hBw hg hIn hR
  obtain ⟨x0, x1, x2, x3, x4, x5⟩ := ps.six
  go_upto_region 3 with (go_at_call 75; refine (level_18 nm A1 n1 c1 ng A2 n2 c2 A3 n3 c3 W).mono ?_; rintro e w1 ⟨rfl, hb1⟩; have pg1 : Blk w1 g 28 #[.int .i64 18, .string nm, .slice A1 n1 c1, .bool ng, .slice A2 n2 c2, .slice A3 n3 c3] := ok_below hb1 g _ ps (by simpa using hgb) (fun c fz e => by injection e with _ e _; exact absurd e (by decide)); have HB1 := Lib.hid (isB_below HB.out hb1); have HBW1 := Lib.hid (HBW.out.trans (hb1.mono hBW)); have HK1 := Lib.hid (HK.out.trans (ok_below hb1)); have hB1 : B ≤ w1.heap.size := Nat.le_trans hBW hb1.size; have HI2 := Lib.hid (HI1.out.under HR.out (hb1.mono hBW)); clear x0 x1 x2 x3 x4 x5 hb1; obtain ⟨x0, x1, x2, x3, x4, x5⟩ := pg1.six)
  go_upto_region 4 with (go_at_call 76; refine (wbyte_w B b bs 40 _ HB1.out (by omega) hB1).mono ?_; rintro e w2 ⟨rfl, h2, hb2, hk2⟩)
  have pg2 : Blk w2 g 28 #[.int .i64 18, .string nm, .slice A1 n1 c1, .bool ng, .slice A2 n2 c2, .slice A3 n3 c3] := hk2 g _ pg1 (by simpa using hgb) (fun c fz e => by injection e with _ e _; exact absurd e (by decide))
  have HBW2 := Lib.hid (HBW1.out.trans hb2)
  have HK2 := Lib.hid (HK1.out.trans hk2)
  have hB2 : B ≤ w2.heap.size := Nat.le_trans hB1 hb2.size
  have HI3 := Lib.hid (HI2.out.under HR.out hb2)
  have H2 := Lib.hid h2
  have hl2 : (bs ++ [Value.int .u8 40]).length + (bodyB true t).length ≤ 140737488355328 := by rw [List.length_append]; simp only [List.length_cons, List.length_nil]; omega
  have hl3 : ((bs ++ [Value.int .u8 40]) ++ Lib.byteCells (bodyB true t)).length + 1 ≤ 140737488355328 := by rw [List.length_append, List.length_append, Lib.byteCells_length]; simp only [List.length_cons, List.length_nil]; omega
  clear x0 x1 x2 x3 x4 x5 h2 hb2 hk2 ps pg1
  obtain ⟨x0, x1, x2, x3, x4, x5⟩ := pg2.six
  go_upto_region 5 with (go_at_call 43; refine (HW.out B b (bs ++ [Value.int .u8 40]) 1 true _ R _ (by decide) HNP.out HI3.out HR.out (.inr H2.out) hl2 hB2).mono ?_; rintro e w3 ⟨rfl, h3, hb3, hk3⟩)
  go_wp2_with (go_at_call 76; refine (wbyte_w B b _ 41 _ (.inr h3) hl3 (Nat.le_trans hB2 hb3.size)).mono ?_; rintro e w4 ⟨rfl, h4, hb4, hk4⟩)
  refine bodyPost_ret (results_none rfl _ _ _) rfl ?_
  exact ⟨rfl, h4, (HBW2.out.trans hb3).trans hb4, (HK2.out.trans hk3).trans hk4⟩
set_option maxHeartbeats 3200000 in
set_option maxRecDepth 100000 in
theorem form_par_19 (t : T) (hk : t.k = 19) (hw : BodyW t) (B b : Nat) (bs : List Value) (least : Nat) (hl : 2 < least) (last : Bool) (w : World) (R : Nat → Prop) (v : Value) (h : T.In w R t v) (hR : ∀ g, R g → g < B) (hIs : Lib.IsBuilder TW TB B b bs w)
    (hlen : bs.length + (bodyB true t).length + 2 ≤ 140737488355328) (hBw : B ≤ w.heap.size) :
    Calls Tryz.prog 43 #[.pointer (some ⟨b, 0, none⟩), v, .int .i64 (least : Nat), .bool last] w fun e w' => e = .returned (.tuple #[]) ∧ (Lib.BuilderAt TW TB B b (.pointer (some ⟨b, 0, none⟩)) (((bs ++ [Value.int .u8 40]) ++ Lib.byteCells (bodyB true t)) ++ [Value.int .u8 41]) w' ∧ Below B w w' ∧ Lib.OthersKept TB (some b) w w') := by
  have HW := Lib.hid hw
  have hnp : ¬ (P.level t.k < 1 ∨ (P.binds t.k = true ∧ true = false)) := by rw [hk]; decide
  have HNP := Lib.hid hnp
  clear hw hnp
  have d1 : decide ((2 : Int) < (least : Int)) = true := by simp; omega
  have hIn := h
  obtain ⟨A1, c1, A2, c2, A3, c3, rfl, _⟩ := h.form
  obtain ⟨nm, hnm⟩ : ∃ x, t.nm = x := ⟨_, rfl⟩
  obtain ⟨ng, hng⟩ : ∃ x, t.ng = x := ⟨_, rfl⟩
  obtain ⟨n1, hn1⟩ : ∃ x, t.ns.length = x := ⟨_, rfl⟩
  obtain ⟨n2, hn2⟩ : ∃ x, t.mg.length = x := ⟨_, rfl⟩
  obtain ⟨n3, hn3⟩ : ∃ x, t.ks.length = x := ⟨_, rfl⟩
  rw [hk, hnm, hng, hn1, hn2, hn3] at hIn ⊢
  clear h hnm hng hn1 hn2 hn3
  unfold tv at hIn ⊢
  go_enter Tryz.func43, Tryz.ntmps43
  go_upto_region 1 with (fail)
  obtain ⟨W, hW, ps, hbW⟩ := made_blk w #[.int .i64 19, .string nm, .slice A1 n1 c1, .bool ng, .slice A2 n2 c2, .slice A3 n3 c3] 28
  obtain ⟨g, hg⟩ : ∃ g, g = w.heap.size := ⟨_, rfl⟩
  have HB : Hid (Lib.IsBuilder TW TB B b bs W) := Lib.hid (hW ▸ isB_alloc hIs _)
  have HK : Hid (Lib.OthersKept TB (some b) w W) := Lib.hid (hW ▸ (Lib.OthersKept.refl TB (some b) w).alloc _)
  have hBW : B ≤ W.heap.size := Nat.le_trans hBw hbW.size
  have HBW := Lib.hid (hbW.mono hBw)
  have HI1 := Lib.hid (hIn.under hR (hbW.mono hBw))
  have HR := Lib.hid hR
  rw [← hW, ← hg]
  rw [← hg] at ps
  have hgb : g ≠ b := by have := below_IsB hIs; omega
  clear hW hbW hIs hBw hg hIn hR
  obtain ⟨x0, x1, x2, x3, x4, x5⟩ := ps.six
  go_upto_region 3 with (go_at_call 75; refine (level_19 nm A1 n1 c1 ng A2 n2 c2 A3 n3 c3 W).mono ?_; rintro e w1 ⟨rfl, hb1⟩; have pg1 : Blk w1 g 28 #[.int .i64 19, .string nm, .slice A1 n1 c1, .bool ng, .slice A2 n2 c2, .slice A3 n3 c3] := ok_below hb1 g _ ps (by simpa using hgb) (fun c fz e => by injection e with _ e _; exact absurd e (by decide)); have HB1 := Lib.hid (isB_below HB.out hb1); have HBW1 := Lib.hid (HBW.out.trans (hb1.mono hBW)); have HK1 := Lib.hid (HK.out.trans (ok_below hb1)); have hB1 : B ≤ w1.heap.size := Nat.le_trans hBW hb1.size; have HI2 := Lib.hid (HI1.out.under HR.out (hb1.mono hBW)); clear x0 x1 x2 x3 x4 x5 hb1; obtain ⟨x0, x1, x2, x3, x4, x5⟩ := pg1.six)
  go_upto_region 4 with (go_at_call 76; refine (wbyte_w B b bs 40 _ HB1.out (by omega) hB1).mono ?_; rintro e w2 ⟨rfl, h2, hb2, hk2⟩)
  have pg2 : Blk w2 g 28 #[.int .i64 19, .string nm, .slice A1 n1 c1, .bool ng, .slice A2 n2 c2, .slice A3 n3 c3] := hk2 g _ pg1 (by simpa using hgb) (fun c fz e => by injection e with _ e _; exact absurd e (by decide))
  have HBW2 := Lib.hid (HBW1.out.trans hb2)
  have HK2 := Lib.hid (HK1.out.trans hk2)
  have hB2 : B ≤ w2.heap.size := Nat.le_trans hB1 hb2.size
  have HI3 := Lib.hid (HI2.out.under HR.out hb2)
  have H2 := Lib.hid h2
  have hl2 : (bs ++ [Value.int .u8 40]).length + (bodyB true t).length ≤ 140737488355328 := by rw [List.length_append]; simp only [List.length_cons, List.length_nil]; omega
  have hl3 : ((bs ++ [Value.int .u8 40]) ++ Lib.byteCells (bodyB true t)).length + 1 ≤ 140737488355328 := by rw [List.length_append, List.length_append, Lib.byteCells_length]; simp only [List.length_cons, List.length_nil]; omega
  clear x0 x1 x2 x3 x4 x5 h2 hb2 hk2 ps pg1
  obtain ⟨x0, x1, x2, x3, x4, x5⟩ := pg2.six
  go_upto_region 5 with (go_at_call 43; refine (HW.out B b (bs ++ [Value.int .u8 40]) 1 true _ R _ (by decide) HNP.out HI3.out HR.out (.inr H2.out) hl2 hB2).mono ?_; rintro e w3 ⟨rfl, h3, hb3, hk3⟩)
  go_wp2_with (go_at_call 76; refine (wbyte_w B b _ 41 _ (.inr h3) hl3 (Nat.le_trans hB2 hb3.size)).mono ?_; rintro e w4 ⟨rfl, h4, hb4, hk4⟩)
  refine bodyPost_ret (results_none rfl _ _ _) rfl ?_
  exact ⟨rfl, h4, (HBW2.out.trans hb3).trans hb4, (HK2.out.trans hk3).trans hk4⟩
set_option maxHeartbeats 3200000 in
set_option maxRecDepth 100000 in
theorem form_par_20 (t : T) (hk : t.k = 20) (hw : BodyW t) (B b : Nat) (bs : List Value) (least : Nat) (hl : 1 < least) (last : Bool) (w : World) (R : Nat → Prop) (v : Value) (h : T.In w R t v) (hR : ∀ g, R g → g < B) (hIs : Lib.IsBuilder TW TB B b bs w)
    (hlen : bs.length + (bodyB true t).length + 2 ≤ 140737488355328) (hBw : B ≤ w.heap.size) :
    Calls Tryz.prog 43 #[.pointer (some ⟨b, 0, none⟩), v, .int .i64 (least : Nat), .bool last] w fun e w' => e = .returned (.tuple #[]) ∧ (Lib.BuilderAt TW TB B b (.pointer (some ⟨b, 0, none⟩)) (((bs ++ [Value.int .u8 40]) ++ Lib.byteCells (bodyB true t)) ++ [Value.int .u8 41]) w' ∧ Below B w w' ∧ Lib.OthersKept TB (some b) w w') := by
  have HW := Lib.hid hw
  have hnp : ¬ (P.level t.k < 1 ∨ (P.binds t.k = true ∧ true = false)) := by rw [hk]; decide
  have HNP := Lib.hid hnp
  clear hw hnp
  have d1 : decide ((1 : Int) < (least : Int)) = true := by simp; omega
  have hIn := h
  obtain ⟨A1, c1, A2, c2, A3, c3, rfl, _⟩ := h.form
  obtain ⟨nm, hnm⟩ : ∃ x, t.nm = x := ⟨_, rfl⟩
  obtain ⟨ng, hng⟩ : ∃ x, t.ng = x := ⟨_, rfl⟩
  obtain ⟨n1, hn1⟩ : ∃ x, t.ns.length = x := ⟨_, rfl⟩
  obtain ⟨n2, hn2⟩ : ∃ x, t.mg.length = x := ⟨_, rfl⟩
  obtain ⟨n3, hn3⟩ : ∃ x, t.ks.length = x := ⟨_, rfl⟩
  rw [hk, hnm, hng, hn1, hn2, hn3] at hIn ⊢
  clear h hnm hng hn1 hn2 hn3
  unfold tv at hIn ⊢
  go_enter Tryz.func43, Tryz.ntmps43
  go_upto_region 1 with (fail)
  obtain ⟨W, hW, ps, hbW⟩ := made_blk w #[.int .i64 20, .string nm, .slice A1 n1 c1, .bool ng, .slice A2 n2 c2, .slice A3 n3 c3] 28
  obtain ⟨g, hg⟩ : ∃ g, g = w.heap.size := ⟨_, rfl⟩
  have HB : Hid (Lib.IsBuilder TW TB B b bs W) := Lib.hid (hW ▸ isB_alloc hIs _)
  have HK : Hid (Lib.OthersKept TB (some b) w W) := Lib.hid (hW ▸ (Lib.OthersKept.refl TB (some b) w).alloc _)
  have hBW : B ≤ W.heap.size := Nat.le_trans hBw hbW.size
  have HBW := Lib.hid (hbW.mono hBw)
  have HI1 := Lib.hid (hIn.under hR (hbW.mono hBw))
  have HR := Lib.hid hR
  rw [← hW, ← hg]
  rw [← hg] at ps
  have hgb : g ≠ b := by have := below_IsB hIs; omega
  clear hW hbW hIs hBw hg hIn hR
  obtain ⟨x0, x1, x2, x3, x4, x5⟩ := ps.six
  go_upto_region 3 with (go_at_call 75; refine (level_20 nm A1 n1 c1 ng A2 n2 c2 A3 n3 c3 W).mono ?_; rintro e w1 ⟨rfl, hb1⟩; have pg1 : Blk w1 g 28 #[.int .i64 20, .string nm, .slice A1 n1 c1, .bool ng, .slice A2 n2 c2, .slice A3 n3 c3] := ok_below hb1 g _ ps (by simpa using hgb) (fun c fz e => by injection e with _ e _; exact absurd e (by decide)); have HB1 := Lib.hid (isB_below HB.out hb1); have HBW1 := Lib.hid (HBW.out.trans (hb1.mono hBW)); have HK1 := Lib.hid (HK.out.trans (ok_below hb1)); have hB1 : B ≤ w1.heap.size := Nat.le_trans hBW hb1.size; have HI2 := Lib.hid (HI1.out.under HR.out (hb1.mono hBW)); clear x0 x1 x2 x3 x4 x5 hb1; obtain ⟨x0, x1, x2, x3, x4, x5⟩ := pg1.six)
  go_upto_region 4 with (go_at_call 76; refine (wbyte_w B b bs 40 _ HB1.out (by omega) hB1).mono ?_; rintro e w2 ⟨rfl, h2, hb2, hk2⟩)
  have pg2 : Blk w2 g 28 #[.int .i64 20, .string nm, .slice A1 n1 c1, .bool ng, .slice A2 n2 c2, .slice A3 n3 c3] := hk2 g _ pg1 (by simpa using hgb) (fun c fz e => by injection e with _ e _; exact absurd e (by decide))
  have HBW2 := Lib.hid (HBW1.out.trans hb2)
  have HK2 := Lib.hid (HK1.out.trans hk2)
  have hB2 : B ≤ w2.heap.size := Nat.le_trans hB1 hb2.size
  have HI3 := Lib.hid (HI2.out.under HR.out hb2)
  have H2 := Lib.hid h2
  have hl2 : (bs ++ [Value.int .u8 40]).length + (bodyB true t).length ≤ 140737488355328 := by rw [List.length_append]; simp only [List.length_cons, List.length_nil]; omega
  have hl3 : ((bs ++ [Value.int .u8 40]) ++ Lib.byteCells (bodyB true t)).length + 1 ≤ 140737488355328 := by rw [List.length_append, List.length_append, Lib.byteCells_length]; simp only [List.length_cons, List.length_nil]; omega
  clear x0 x1 x2 x3 x4 x5 h2 hb2 hk2 ps pg1
  obtain ⟨x0, x1, x2, x3, x4, x5⟩ := pg2.six
  go_upto_region 5 with (go_at_call 43; refine (HW.out B b (bs ++ [Value.int .u8 40]) 1 true _ R _ (by decide) HNP.out HI3.out HR.out (.inr H2.out) hl2 hB2).mono ?_; rintro e w3 ⟨rfl, h3, hb3, hk3⟩)
  go_wp2_with (go_at_call 76; refine (wbyte_w B b _ 41 _ (.inr h3) hl3 (Nat.le_trans hB2 hb3.size)).mono ?_; rintro e w4 ⟨rfl, h4, hb4, hk4⟩)
  refine bodyPost_ret (results_none rfl _ _ _) rfl ?_
  exact ⟨rfl, h4, (HBW2.out.trans hb3).trans hb4, (HK2.out.trans hk3).trans hk4⟩
set_option maxHeartbeats 3200000 in
set_option maxRecDepth 100000 in
theorem form_par_21 (t : T) (hk : t.k = 21) (hw : BodyW t) (B b : Nat) (bs : List Value) (least : Nat) (hl : least ≤ 5)  (w : World) (R : Nat → Prop) (v : Value) (h : T.In w R t v) (hR : ∀ g, R g → g < B) (hIs : Lib.IsBuilder TW TB B b bs w)
    (hlen : bs.length + (bodyB true t).length + 2 ≤ 140737488355328) (hBw : B ≤ w.heap.size) :
    Calls Tryz.prog 43 #[.pointer (some ⟨b, 0, none⟩), v, .int .i64 (least : Nat), .bool false] w fun e w' => e = .returned (.tuple #[]) ∧ (Lib.BuilderAt TW TB B b (.pointer (some ⟨b, 0, none⟩)) (((bs ++ [Value.int .u8 40]) ++ Lib.byteCells (bodyB true t)) ++ [Value.int .u8 41]) w' ∧ Below B w w' ∧ Lib.OthersKept TB (some b) w w') := by
  have HW := Lib.hid hw
  have hnp : ¬ (P.level t.k < 1 ∨ (P.binds t.k = true ∧ true = false)) := by rw [hk]; decide
  have HNP := Lib.hid hnp
  clear hw hnp
  have d1 : decide ((5 : Int) < (least : Int)) = false := by simp; omega
  have hIn := h
  obtain ⟨A1, c1, A2, c2, A3, c3, rfl, _⟩ := h.form
  obtain ⟨nm, hnm⟩ : ∃ x, t.nm = x := ⟨_, rfl⟩
  obtain ⟨ng, hng⟩ : ∃ x, t.ng = x := ⟨_, rfl⟩
  obtain ⟨n1, hn1⟩ : ∃ x, t.ns.length = x := ⟨_, rfl⟩
  obtain ⟨n2, hn2⟩ : ∃ x, t.mg.length = x := ⟨_, rfl⟩
  obtain ⟨n3, hn3⟩ : ∃ x, t.ks.length = x := ⟨_, rfl⟩
  rw [hk, hnm, hng, hn1, hn2, hn3] at hIn ⊢
  clear h hnm hng hn1 hn2 hn3
  unfold tv at hIn ⊢
  go_enter Tryz.func43, Tryz.ntmps43
  go_upto_region 1 with (fail)
  obtain ⟨W, hW, ps, hbW⟩ := made_blk w #[.int .i64 21, .string nm, .slice A1 n1 c1, .bool ng, .slice A2 n2 c2, .slice A3 n3 c3] 28
  obtain ⟨g, hg⟩ : ∃ g, g = w.heap.size := ⟨_, rfl⟩
  have HB : Hid (Lib.IsBuilder TW TB B b bs W) := Lib.hid (hW ▸ isB_alloc hIs _)
  have HK : Hid (Lib.OthersKept TB (some b) w W) := Lib.hid (hW ▸ (Lib.OthersKept.refl TB (some b) w).alloc _)
  have hBW : B ≤ W.heap.size := Nat.le_trans hBw hbW.size
  have HBW := Lib.hid (hbW.mono hBw)
  have HI1 := Lib.hid (hIn.under hR (hbW.mono hBw))
  have HR := Lib.hid hR
  rw [← hW, ← hg]
  rw [← hg] at ps
  have hgb : g ≠ b := by have := below_IsB hIs; omega
  clear hW hbW hIs hBw hg hIn hR
  obtain ⟨x0, x1, x2, x3, x4, x5⟩ := ps.six
  go_upto_region 3 with (go_at_call 75; refine (level_21 nm A1 n1 c1 ng A2 n2 c2 A3 n3 c3 W).mono ?_; rintro e w1 ⟨rfl, hb1⟩; have pg1 : Blk w1 g 28 #[.int .i64 21, .string nm, .slice A1 n1 c1, .bool ng, .slice A2 n2 c2, .slice A3 n3 c3] := ok_below hb1 g _ ps (by simpa using hgb) (fun c fz e => by injection e with _ e _; exact absurd e (by decide)); have HB1 := Lib.hid (isB_below HB.out hb1); have HBW1 := Lib.hid (HBW.out.trans (hb1.mono hBW)); have HK1 := Lib.hid (HK.out.trans (ok_below hb1)); have hB1 : B ≤ w1.heap.size := Nat.le_trans hBW hb1.size; have HI2 := Lib.hid (HI1.out.under HR.out (hb1.mono hBW)); clear x0 x1 x2 x3 x4 x5 hb1; obtain ⟨x0, x1, x2, x3, x4, x5⟩ := pg1.six)
  go_upto_region 4 with (go_at_call 76; refine (wbyte_w B b bs 40 _ HB1.out (by omega) hB1).mono ?_; rintro e w2 ⟨rfl, h2, hb2, hk2⟩)
  have pg2 : Blk w2 g 28 #[.int .i64 21, .string nm, .slice A1 n1 c1, .bool ng, .slice A2 n2 c2, .slice A3 n3 c3] := hk2 g _ pg1 (by simpa using hgb) (fun c fz e => by injection e with _ e _; exact absurd e (by decide))
  have HBW2 := Lib.hid (HBW1.out.trans hb2)
  have HK2 := Lib.hid (HK1.out.trans hk2)
  have hB2 : B ≤ w2.heap.size := Nat.le_trans hB1 hb2.size
  have HI3 := Lib.hid (HI2.out.under HR.out hb2)
  have H2 := Lib.hid h2
  have hl2 : (bs ++ [Value.int .u8 40]).length + (bodyB true t).length ≤ 140737488355328 := by rw [List.length_append]; simp only [List.length_cons, List.length_nil]; omega
  have hl3 : ((bs ++ [Value.int .u8 40]) ++ Lib.byteCells (bodyB true t)).length + 1 ≤ 140737488355328 := by rw [List.length_append, List.length_append, Lib.byteCells_length]; simp only [List.length_cons, List.length_nil]; omega
  clear x0 x1 x2 x3 x4 x5 h2 hb2 hk2 ps pg1
  obtain ⟨x0, x1, x2, x3, x4, x5⟩ := pg2.six
  go_upto_region 5 with (go_at_call 43; refine (HW.out B b (bs ++ [Value.int .u8 40]) 1 true _ R _ (by decide) HNP.out HI3.out HR.out (.inr H2.out) hl2 hB2).mono ?_; rintro e w3 ⟨rfl, h3, hb3, hk3⟩)
  go_wp2_with (go_at_call 76; refine (wbyte_w B b _ 41 _ (.inr h3) hl3 (Nat.le_trans hB2 hb3.size)).mono ?_; rintro e w4 ⟨rfl, h4, hb4, hk4⟩)
  refine bodyPost_ret (results_none rfl _ _ _) rfl ?_
  exact ⟨rfl, h4, (HBW2.out.trans hb3).trans hb4, (HK2.out.trans hk3).trans hk4⟩
set_option maxHeartbeats 3200000 in
set_option maxRecDepth 100000 in
theorem form_par_22 (t : T) (hk : t.k = 22) (hw : BodyW t) (B b : Nat) (bs : List Value) (least : Nat) (hl : least ≤ 5)  (w : World) (R : Nat → Prop) (v : Value) (h : T.In w R t v) (hR : ∀ g, R g → g < B) (hIs : Lib.IsBuilder TW TB B b bs w)
    (hlen : bs.length + (bodyB true t).length + 2 ≤ 140737488355328) (hBw : B ≤ w.heap.size) :
    Calls Tryz.prog 43 #[.pointer (some ⟨b, 0, none⟩), v, .int .i64 (least : Nat), .bool false] w fun e w' => e = .returned (.tuple #[]) ∧ (Lib.BuilderAt TW TB B b (.pointer (some ⟨b, 0, none⟩)) (((bs ++ [Value.int .u8 40]) ++ Lib.byteCells (bodyB true t)) ++ [Value.int .u8 41]) w' ∧ Below B w w' ∧ Lib.OthersKept TB (some b) w w') := by
  have HW := Lib.hid hw
  have hnp : ¬ (P.level t.k < 1 ∨ (P.binds t.k = true ∧ true = false)) := by rw [hk]; decide
  have HNP := Lib.hid hnp
  clear hw hnp
  have d1 : decide ((5 : Int) < (least : Int)) = false := by simp; omega
  have hIn := h
  obtain ⟨A1, c1, A2, c2, A3, c3, rfl, _⟩ := h.form
  obtain ⟨nm, hnm⟩ : ∃ x, t.nm = x := ⟨_, rfl⟩
  obtain ⟨ng, hng⟩ : ∃ x, t.ng = x := ⟨_, rfl⟩
  obtain ⟨n1, hn1⟩ : ∃ x, t.ns.length = x := ⟨_, rfl⟩
  obtain ⟨n2, hn2⟩ : ∃ x, t.mg.length = x := ⟨_, rfl⟩
  obtain ⟨n3, hn3⟩ : ∃ x, t.ks.length = x := ⟨_, rfl⟩
  rw [hk, hnm, hng, hn1, hn2, hn3] at hIn ⊢
  clear h hnm hng hn1 hn2 hn3
  unfold tv at hIn ⊢
  go_enter Tryz.func43, Tryz.ntmps43
  go_upto_region 1 with (fail)
  obtain ⟨W, hW, ps, hbW⟩ := made_blk w #[.int .i64 22, .string nm, .slice A1 n1 c1, .bool ng, .slice A2 n2 c2, .slice A3 n3 c3] 28
  obtain ⟨g, hg⟩ : ∃ g, g = w.heap.size := ⟨_, rfl⟩
  have HB : Hid (Lib.IsBuilder TW TB B b bs W) := Lib.hid (hW ▸ isB_alloc hIs _)
  have HK : Hid (Lib.OthersKept TB (some b) w W) := Lib.hid (hW ▸ (Lib.OthersKept.refl TB (some b) w).alloc _)
  have hBW : B ≤ W.heap.size := Nat.le_trans hBw hbW.size
  have HBW := Lib.hid (hbW.mono hBw)
  have HI1 := Lib.hid (hIn.under hR (hbW.mono hBw))
  have HR := Lib.hid hR
  rw [← hW, ← hg]
  rw [← hg] at ps
  have hgb : g ≠ b := by have := below_IsB hIs; omega
  clear hW hbW hIs hBw hg hIn hR
  obtain ⟨x0, x1, x2, x3, x4, x5⟩ := ps.six
  go_upto_region 3 with (go_at_call 75; refine (level_22 nm A1 n1 c1 ng A2 n2 c2 A3 n3 c3 W).mono ?_; rintro e w1 ⟨rfl, hb1⟩; have pg1 : Blk w1 g 28 #[.int .i64 22, .string nm, .slice A1 n1 c1, .bool ng, .slice A2 n2 c2, .slice A3 n3 c3] := ok_below hb1 g _ ps (by simpa using hgb) (fun c fz e => by injection e with _ e _; exact absurd e (by decide)); have HB1 := Lib.hid (isB_below HB.out hb1); have HBW1 := Lib.hid (HBW.out.trans (hb1.mono hBW)); have HK1 := Lib.hid (HK.out.trans (ok_below hb1)); have hB1 : B ≤ w1.heap.size := Nat.le_trans hBW hb1.size; have HI2 := Lib.hid (HI1.out.under HR.out (hb1.mono hBW)); clear x0 x1 x2 x3 x4 x5 hb1; obtain ⟨x0, x1, x2, x3, x4, x5⟩ := pg1.six)
  go_upto_region 4 with (go_at_call 76; refine (wbyte_w B b bs 40 _ HB1.out (by omega) hB1).mono ?_; rintro e w2 ⟨rfl, h2, hb2, hk2⟩)
  have pg2 : Blk w2 g 28 #[.int .i64 22, .string nm, .slice A1 n1 c1, .bool ng, .slice A2 n2 c2, .slice A3 n3 c3] := hk2 g _ pg1 (by simpa using hgb) (fun c fz e => by injection e with _ e _; exact absurd e (by decide))
  have HBW2 := Lib.hid (HBW1.out.trans hb2)
  have HK2 := Lib.hid (HK1.out.trans hk2)
  have hB2 : B ≤ w2.heap.size := Nat.le_trans hB1 hb2.size
  have HI3 := Lib.hid (HI2.out.under HR.out hb2)
  have H2 := Lib.hid h2
  have hl2 : (bs ++ [Value.int .u8 40]).length + (bodyB true t).length ≤ 140737488355328 := by rw [List.length_append]; simp only [List.length_cons, List.length_nil]; omega
  have hl3 : ((bs ++ [Value.int .u8 40]) ++ Lib.byteCells (bodyB true t)).length + 1 ≤ 140737488355328 := by rw [List.length_append, List.length_append, Lib.byteCells_length]; simp only [List.length_cons, List.length_nil]; omega
  clear x0 x1 x2 x3 x4 x5 h2 hb2 hk2 ps pg1
  obtain ⟨x0, x1, x2, x3, x4, x5⟩ := pg2.six
  go_upto_region 5 with (go_at_call 43; refine (HW.out B b (bs ++ [Value.int .u8 40]) 1 true _ R _ (by decide) HNP.out HI3.out HR.out (.inr H2.out) hl2 hB2).mono ?_; rintro e w3 ⟨rfl, h3, hb3, hk3⟩)
  go_wp2_with (go_at_call 76; refine (wbyte_w B b _ 41 _ (.inr h3) hl3 (Nat.le_trans hB2 hb3.size)).mono ?_; rintro e w4 ⟨rfl, h4, hb4, hk4⟩)
  refine bodyPost_ret (results_none rfl _ _ _) rfl ?_
  exact ⟨rfl, h4, (HBW2.out.trans hb3).trans hb4, (HK2.out.trans hk3).trans hk4⟩
end
end Go.Proofs.YthiadenmljbdaaaGreatDoor

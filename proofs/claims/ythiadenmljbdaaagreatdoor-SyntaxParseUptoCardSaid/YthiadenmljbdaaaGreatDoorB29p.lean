/-
  p: the parts DWord DAns DForm DImpl.
-/
import Derived.Test.YthiadenmljbdaaaGreatDoorB14p
import Derived.Deep.Cut
namespace Go.Proofs.YthiadenmljbdaaaGreatDoor
section
open Go.RowKit
def Dx (w : World) (R0 : Nat → Prop) (A : Option Addr) (ws : List Wd) : Prop := Wds w R0 A ws ∧ ws.length ≤ 1048576 ∧ ∀ b, R0 b → b < w.heap.size
abbrev xv (A : Option Addr) (n c e : Nat) : Value := .agg #[.slice A n c, .int .i64 (e : Nat)]
theorem Blk.duo {w : World} {b : Nat} {t : TypeId} {a0 a1 : Value} (h : Blk w b t #[a0, a1]) : w.cell? ⟨b, 0, none⟩ = some a0 ∧ w.cell? ⟨b, 1, none⟩ = some a1 := ⟨h.cell 0, h.cell 1⟩
theorem sizeRule : (Tryz.prog.info? 56).map (·.size) = some 9 := by kernel_rfl
section
variable {w : World} {b : Nat} {t : TypeId} {a0 a1 a2 a3 a4 a5 a6 a7 a8 : Value}
theorem Blk.open9 (h : Blk w b t #[a0, a1, a2, a3, a4, a5, a6, a7, a8]) :
    (w.frozen? ⟨b, 0, none⟩ = false ∧ w.frozen? ⟨b, 1, none⟩ = false ∧ w.frozen? ⟨b, 2, none⟩ = false ∧ w.frozen? ⟨b, 3, none⟩ = false ∧ w.frozen? ⟨b, 4, none⟩ = false ∧ w.frozen? ⟨b, 5, none⟩ = false ∧ w.frozen? ⟨b, 6, none⟩ = false ∧ w.frozen? ⟨b, 7, none⟩ = false ∧ w.frozen? ⟨b, 8, none⟩ = false) ∧ w.cell? ⟨b, 0, none⟩ = some a0 ∧ w.cell? ⟨b, 1, none⟩ = some a1 ∧ w.cell? ⟨b, 2, none⟩ = some a2 ∧ w.cell? ⟨b, 3, none⟩ = some a3 ∧ w.cell? ⟨b, 4, none⟩ = some a4 ∧ w.cell? ⟨b, 5, none⟩ = some a5 ∧ w.cell? ⟨b, 6, none⟩ = some a6 ∧ w.cell? ⟨b, 7, none⟩ = some a7 ∧ w.cell? ⟨b, 8, none⟩ = some a8 :=
  ⟨⟨h.free 0, h.free 1, h.free 2, h.free 3, h.free 4, h.free 5, h.free 6, h.free 7, h.free 8⟩, h.cell 0, h.cell 1, h.cell 2, h.cell 3, h.cell 4, h.cell 5, h.cell 6, h.cell 7, h.cell 8⟩
theorem Blk.set9 (h : Blk w b t #[a0, a1, a2, a3, a4, a5, a6, a7, a8]) (u0 u1 u2 u3 u4 u5 u6 u7 u8 : Value) :
    Blk (((((((((w.setCell ⟨b, 0, none⟩ u0).setCell ⟨b, 1, none⟩ u1).setCell ⟨b, 2, none⟩ u2).setCell ⟨b, 3, none⟩ u3).setCell ⟨b, 4, none⟩ u4).setCell ⟨b, 5, none⟩ u5).setCell ⟨b, 6, none⟩ u6).setCell ⟨b, 7, none⟩ u7).setCell ⟨b, 8, none⟩ u8) b t #[u0, u1, u2, u3, u4, u5, u6, u7, u8] := by
  have h' := ((((((((h.put 0 u0).put 1 u1).put 2 u2).put 3 u3).put 4 u4).put 5 u5).put 6 u6).put 7 u7).put 8 u8
  simp only [zs1, zs2, zs3] at h'
  exact h'
end
theorem below_set9 {B b : Nat} {w0 w : World} (h : Below B w0 w) (hb : B ≤ b) (u0 u1 u2 u3 u4 u5 u6 u7 u8 : Value) : Below B w0 (((((((((w.setCell ⟨b, 0, none⟩ u0).setCell ⟨b, 1, none⟩ u1).setCell ⟨b, 2, none⟩ u2).setCell ⟨b, 3, none⟩ u3).setCell ⟨b, 4, none⟩ u4).setCell ⟨b, 5, none⟩ u5).setCell ⟨b, 6, none⟩ u6).setCell ⟨b, 7, none⟩ u7).setCell ⟨b, 8, none⟩ u8) :=
 ((((((((h.setCell hb _).setCell hb _).setCell hb _).setCell hb _).setCell hb _).setCell hb _).setCell hb _).setCell hb _).setCell hb _
theorem results_rl {fn : Func} {p : Tmp} (h : fn.results = #[.cell p 56]) (tmps : Array Value) (w : World) (g : Nat) (a0 a1 a2 a3 a4 a5 a6 a7 a8 : Value)
    (hp : tmps.getD p undef = .pointer (some ⟨g, 0, none⟩)) (hg : Blk w g 56 #[a0, a1, a2, a3, a4, a5, a6, a7, a8]) :
    (results fn tmps).run Tryz.prog w = .ok (.agg #[a0, a1, a2, a3, a4, a5, a6, a7, a8]) w :=
  results_cell_row h tmps w g _ _ _ _ hp hg Tryz.underlying56 rfl sizeRule
theorem enter_d (w : World) (A : Option Addr) (n c e : Nat) : ∃ (W : World) (g0 g1 : Nat), W = (w.alloc (.cells #[.slice A n c, .int .i64 (e : Nat)] 54)).alloc (.cells #[.int .i64 0, .string ⟨#[]⟩, .slice none 0 0, .bool false, .slice none 0 0, .slice none 0 0, .int .i64 0, .int .i64 0, .int .i64 0] 56) ∧ g0 = w.heap.size ∧ g1 = w.heap.size + 1 ∧
    Blk W g0 54 #[.slice A n c, .int .i64 (e : Nat)] ∧ Blk W g1 56 #[.int .i64 0, .string ⟨#[]⟩, .slice none 0 0, .bool false, .slice none 0 0, .slice none 0 0, .int .i64 0, .int .i64 0, .int .i64 0] ∧ Below w.heap.size w W := by
  obtain ⟨W1, hW1, ps1, hb1⟩ := made_blk w #[.slice A n c, .int .i64 (e : Nat)] 54
  have hsz : W1.heap.size = w.heap.size + 1 := by rw [hW1]; simp
  obtain ⟨W2, hW2, ps2, hb2⟩ := made_blk W1 #[.int .i64 0, .string ⟨#[]⟩, .slice none 0 0, .bool false, .slice none 0 0, .slice none 0 0, .int .i64 0, .int .i64 0, .int .i64 0] 56
  rw [hsz] at ps2
  exact ⟨W2, _, _, by rw [hW2, hW1], rfl, rfl, ps1.below hb2, ps2, below_on hb1 hb2⟩
section
variable {w w' : World} {R0 : Nat → Prop} {A : Option Addr} {c e : Nat} {ws : List Wd}
theorem Dx.below (h : Dx w R0 A ws) (hb : Below w.heap.size w w') : Dx w' R0 A ws := ⟨h.1.keep (.of_below hb), h.2.1, fun b h0 => Nat.lt_of_lt_of_le (h.2.2 b h0) hb.size⟩
theorem P.tx_nil (ws : List Wd) (i : Nat) (h : ¬ i < ws.length) : P.tx (ws.drop i) = ⟨#[]⟩ := by rw [List.drop_eq_nil_of_le (by omega)]; rfl
set_option maxRecDepth 100000 in
set_option maxHeartbeats 1600000 in
theorem word_d (h : Dx w R0 A ws) (a : Nat) (ha : a ≤ 1048577) (z : Int) (hz : z = (a : Nat)) :
    Calls Tryz.prog 64 #[xv A ws.length c e, .int .i64 z] w fun ex w' => ex = .returned (.string (P.tx (ws.drop a))) ∧ Below w.heap.size w w' := by
  subst hz
  unfold xv
  obtain ⟨W, hW, ps, hbW⟩ := made_blk w #[.slice A ws.length c, .int .i64 (e : Nat)] 54
  obtain ⟨hws, hn, _⟩ := h.below hbW
  obtain ⟨n, hn'⟩ : ∃ n, ws.length = n := ⟨_, rfl⟩
  unfold Wds at hws
  obtain ⟨g0, hg0⟩ : ∃ x, x = w.heap.size := ⟨_, rfl⟩
  rw [← hg0] at ps
  by_cases hi : a < ws.length
  ·
   obtain ⟨g, rfl, _, hc⟩ := hws (by omega)
   obtain ⟨B, d, _, e1, _⟩ := hc _ hi
   rw [P.tx_drop ws a hi]
   rw [hn'] at hi hn ps hW ⊢
   have i0 : (0 : Int) ≤ (a : Int) := by omega
   have i1 : (a : Int) < n := by omega
   have d1 : decide (a < n) = true := decide_eq_true hi
   clear hws hc hn'
   go_enter Tryz.func64, Tryz.ntmps64
   go_upto_region 1 with (fail)
   rw [← hW, ← hg0]
   clear hW hg0
   obtain ⟨y0, y1⟩ := ps.duo
   go_wp2_with fail
   go_ret
   exact ⟨rfl, hbW⟩
  ·
   rw [P.tx_nil ws a hi]
   rw [hn'] at hi hn ps hW ⊢
   have d1 : decide (a < n) = false := decide_eq_false hi
   clear hws hn'
   go_enter Tryz.func64, Tryz.ntmps64
   go_upto_region 1 with (fail)
   rw [← hW, ← hg0]
   clear hW hg0
   obtain ⟨y0, y1⟩ := ps.duo
   go_wp2_with fail
   go_ret
   exact ⟨rfl, hbW⟩
set_option maxRecDepth 100000 in
set_option maxHeartbeats 1600000 in
theorem kind_d (h : Dx w R0 A ws) (a : Nat) (ha : a ≤ 1048577) (z : Int) (hz : z = (a : Nat)) :
    Calls Tryz.prog 170 #[xv A ws.length c e, .int .i64 z] w fun ex w' => ex = .returned (.int .i64 (P.kd (ws.drop a) : Nat)) ∧ Below w.heap.size w w' := by
  subst hz
  unfold xv
  obtain ⟨W, hW, ps, hbW⟩ := made_blk w #[.slice A ws.length c, .int .i64 (e : Nat)] 54
  obtain ⟨hws, hn, _⟩ := h.below hbW
  obtain ⟨n, hn'⟩ : ∃ n, ws.length = n := ⟨_, rfl⟩
  unfold Wds at hws
  obtain ⟨g0, hg0⟩ : ∃ x, x = w.heap.size := ⟨_, rfl⟩
  rw [← hg0] at ps
  by_cases hi : a < ws.length
  ·
   obtain ⟨g, rfl, _, hc⟩ := hws (by omega)
   obtain ⟨B, d, e0, _⟩ := hc _ hi
   rw [P.kd_drop, if_pos hi]
   rw [hn'] at hi hn ps hW ⊢
   have i0 : (0 : Int) ≤ (a : Int) := by omega
   have i1 : (a : Int) < n := by omega
   have d1 : decide (a < n) = true := decide_eq_true hi
   clear hws hc hn'
   go_enter Tryz.func170, Tryz.ntmps170
   go_upto_region 1 with (fail)
   rw [← hW, ← hg0]
   clear hW hg0
   obtain ⟨y0, y1⟩ := ps.duo
   go_wp2_with fail
   go_ret
   exact ⟨rfl, hbW⟩
  ·
   rw [P.kd_drop, if_neg hi]
   rw [hn'] at hi hn ps hW ⊢
   have d1 : decide (a < n) = false := decide_eq_false hi
   clear hws hn'
   go_enter Tryz.func170, Tryz.ntmps170
   go_upto_region 1 with (fail)
   rw [← hW, ← hg0]
   clear hW hg0
   obtain ⟨y0, y1⟩ := ps.duo
   go_wp2_with fail
   go_ret
   exact ⟨rfl, hbW⟩
set_option maxRecDepth 100000 in
set_option maxHeartbeats 1600000 in
theorem wrong_d (h : Dx w R0 A ws) (a : Nat) (ha : a ≤ 1048577) (z : Int) (hz : z = (a : Nat)) :
    Calls Tryz.prog 35 #[xv A ws.length c e, .int .i64 z] w fun ex w' => (∃ cd p, P.wrong e (ws.drop a) = .bad cd p ∧ cd ≠ 0 ∧ ex = .returned (.agg #[.int .i64 0, .string ⟨#[]⟩, .slice none 0 0, .bool false, .slice none 0 0, .slice none 0 0, .int .i64 0, .int .i64 (cd : Nat), .int .i64 (p : Nat)])) ∧ Below w.heap.size w w' := by
  subst hz
  unfold xv
  obtain ⟨W, g0, g1, hW, hg0, hg1, ps, pr, hbW⟩ := enter_d w A ws.length c e
  obtain ⟨hws, hn, _⟩ := h.below hbW
  obtain ⟨n, hn'⟩ : ∃ n, ws.length = n := ⟨_, rfl⟩
  unfold Wds at hws
  by_cases hi : a < ws.length
  ·
   obtain ⟨g, rfl, _, hc⟩ := hws (by omega)
   obtain ⟨B, d, _, _, _, _, e4, _⟩ := hc _ hi
   rw [P.wrong_drop, if_pos hi]
   rw [hn'] at hi hn ps hW ⊢
   have i0 : (0 : Int) ≤ (a : Int) := by omega
   have i1 : (a : Int) < n := by omega
   have d1 : decide (a < n) = true := decide_eq_true hi
   clear hc
   clear hws hn'
   go_enter Tryz.func35, Tryz.ntmps35
   go_upto_region 1 with (fail)
   rw [← hW, ← hg1, ← hg0]
   have hl1 : w.heap.size ≤ g1 := by omega
   clear hW hg0 hg1
   obtain ⟨y0, y1⟩ := ps.duo
   have qx := pr.open9
   go_wp2_with fail
   refine bodyPost_ret (results_rl rfl _ _ _ _ _ _ _ _ _ _ _ _ rfl (pr.set9 _ _ _ _ _ _ _ _ _)) rfl ?_
   exact ⟨⟨_, _, rfl, by decide, rfl⟩, below_set9 hbW hl1 _ _ _ _ _ _ _ _ _⟩
  ·
   rw [P.wrong_drop, if_neg hi]
   rw [hn'] at hi hn ps hW ⊢
   have d1 : decide (a < n) = false := decide_eq_false hi
   clear hws hn'
   go_enter Tryz.func35, Tryz.ntmps35
   go_upto_region 1 with (fail)
   rw [← hW, ← hg1, ← hg0]
   have hl1 : w.heap.size ≤ g1 := by omega
   clear hW hg0 hg1
   obtain ⟨y0, y1⟩ := ps.duo
   have qx := pr.open9
   go_wp2_with fail
   refine bodyPost_ret (results_rl rfl _ _ _ _ _ _ _ _ _ _ _ _ rfl (pr.set9 _ _ _ _ _ _ _ _ _)) rfl ?_
   exact ⟨⟨_, _, rfl, by decide, rfl⟩, below_set9 hbW hl1 _ _ _ _ _ _ _ _ _⟩
theorem isW_tx (s : ByteArray) (hs : s.size ≠ 0) (l : List Wd) : decide (P.tx l = s) = P.isW s l := by
 cases l with
 | nil =>
  show decide ((⟨#[]⟩ : ByteArray) = s) = false
  exact decide_eq_false (fun e => hs (by rw [← e]; rfl))
 | cons t r => rfl
theorem tx_beq (s : ByteArray) (hs : s.size ≠ 0) (l : List Wd) : ((P.tx l).toList == s.data.toList) = P.isW s l := by rw [← ByteArray.toList_eq, beq_str, isW_tx s hs]
set_option maxRecDepth 100000 in
set_option maxHeartbeats 1600000 in
theorem sign_d (w : World) (l : List Wd) :
    Calls Tryz.prog 179 #[.string (P.tx l)] w fun ex w' => ex = .returned (.int .i64 (P.sign l)) ∧ Below w.heap.size w w' := by
  have t0 : ((P.tx l).toList == [60]) = _ := tx_beq ⟨#[60]⟩ (by decide) l
  have t1 : ((P.tx l).toList == [60, 61]) = _ := tx_beq ⟨#[60, 61]⟩ (by decide) l
  have t2 : ((P.tx l).toList == [61]) = _ := tx_beq ⟨#[61]⟩ (by decide) l
  have t3 : ((P.tx l).toList == [33, 61]) = _ := tx_beq ⟨#[33, 61]⟩ (by decide) l
  have t4 : ((P.tx l).toList == [62, 61]) = _ := tx_beq ⟨#[62, 61]⟩ (by decide) l
  have t5 : ((P.tx l).toList == [62]) = _ := tx_beq ⟨#[62]⟩ (by decide) l
  unfold P.sign
  obtain ⟨X, hX⟩ : ∃ X, P.tx l = X := ⟨_, rfl⟩
  obtain ⟨b0, hb0⟩ : ∃ b, P.isW ⟨#[60]⟩ l = b := ⟨_, rfl⟩
  obtain ⟨b1, hb1⟩ : ∃ b, P.isW ⟨#[60, 61]⟩ l = b := ⟨_, rfl⟩
  obtain ⟨b2, hb2⟩ : ∃ b, P.isW ⟨#[61]⟩ l = b := ⟨_, rfl⟩
  obtain ⟨b3, hb3⟩ : ∃ b, P.isW ⟨#[33, 61]⟩ l = b := ⟨_, rfl⟩
  obtain ⟨b4, hb4⟩ : ∃ b, P.isW ⟨#[62, 61]⟩ l = b := ⟨_, rfl⟩
  obtain ⟨b5, hb5⟩ : ∃ b, P.isW ⟨#[62]⟩ l = b := ⟨_, rfl⟩
  rw [hX] at t0 t1 t2 t3 t4 t5 ⊢
  rw [hb0] at t0 ⊢; rw [hb1] at t1 ⊢; rw [hb2] at t2 ⊢; rw [hb3] at t3 ⊢; rw [hb4] at t4 ⊢; rw [hb5] at t5 ⊢
  clear hX hb0 hb1 hb2 hb3 hb4 hb5
  cases b0
  rotate_left
  · go_enter Tryz.func179, Tryz.ntmps179
    go_wp2_with fail
    go_ret
    exact ⟨by simp, Below.refl _ _⟩
  cases b1
  rotate_left
  · go_enter Tryz.func179, Tryz.ntmps179
    go_wp2_with fail
    go_ret
    exact ⟨by simp, Below.refl _ _⟩
  cases b2
  rotate_left
  · go_enter Tryz.func179, Tryz.ntmps179
    go_wp2_with fail
    go_ret
    exact ⟨by simp, Below.refl _ _⟩
  cases b3
  rotate_left
  · go_enter Tryz.func179, Tryz.ntmps179
    go_wp2_with fail
    go_ret
    exact ⟨by simp, Below.refl _ _⟩
  cases b4
  rotate_left
  · go_enter Tryz.func179, Tryz.ntmps179
    go_wp2_with fail
    go_ret
    exact ⟨by simp, Below.refl _ _⟩
  cases b5
  rotate_left
  · go_enter Tryz.func179, Tryz.ntmps179
    go_wp2_with fail
    go_ret
    exact ⟨by simp, Below.refl _ _⟩
  go_enter Tryz.func179, Tryz.ntmps179
  go_wp2_with fail
  go_ret
  exact ⟨by simp, Below.refl _ _⟩
end
end
section
open Go.RowKit
abbrev DR (R0 : Nat → Prop) (lo hi : Nat) (b : Nat) : Prop := R0 b ∨ (lo ≤ b ∧ b < hi)
def DAns (R0 : Nat → Prop) (w : World) (ws : List Wd) : P.Rd → Ending → World → Prop
 | .out, _, _ => False
 | .bad cd p, ex, w' => cd ≠ 0 ∧ (∃ z : Int, ex = .returned (.agg #[.int .i64 0, .string ⟨#[]⟩, .slice none 0 0, .bool false, .slice none 0 0, .slice none 0 0, .int .i64 z, .int .i64 (cd : Nat), .int .i64 (p : Nat)])) ∧ Below w.heap.size w w'
 | .ok t r, ex, w' => (∃ A1 c1 A2 c2 A3 c3 a', ex = .returned (.agg #[.int .i64 t.k, .string t.nm, .slice A1 t.ns.length c1, .bool t.ng, .slice A2 t.mg.length c2, .slice A3 t.ks.length c3, .int .i64 (a' : Nat), .int .i64 0, .int .i64 0]) ∧ r = ws.drop a' ∧ a' ≤ ws.length ∧ T.In w' (DR R0 w.heap.size w'.heap.size) t (.agg #[.int .i64 t.k, .string t.nm, .slice A1 t.ns.length c1, .bool t.ng, .slice A2 t.mg.length c2, .slice A3 t.ks.length c3])) ∧ Below w.heap.size w w'
def DRule (R0 : Nat → Prop) (A : Option Addr) (c : Nat) (ws : List Wd) (e f : Nat) (nt : P.NT) (fn : Nat) : Prop :=
 ∀ (w : World) (a : Nat) (z : Int), z = (a : Nat) → Dx w R0 A ws → a ≤ ws.length → P.G e f nt (ws.drop a) ≠ .out → Calls Tryz.prog fn #[xv A ws.length c e, .int .i64 z] w (DAns R0 w ws (P.G e f nt (ws.drop a)))
section
variable {w w' W : World} {R0 : Nat → Prop} {A : Option Addr} {c e a a' : Nat} {ws : List Wd}
theorem DRule.ok {f fn : Nat} {nt : P.NT} {t : T} {r : List Wd} {z : Int} (h : DRule R0 A c ws e f nt fn) (hp : Dx w R0 A ws) (ha : a ≤ ws.length) (hz : z = (a : Nat)) (hX : P.G e f nt (ws.drop a) = .ok t r) :
    Calls Tryz.prog fn #[xv A ws.length c e, .int .i64 z] w fun ex w' => (∃ A1 c1 A2 c2 A3 c3 a', ex = .returned (.agg #[.int .i64 t.k, .string t.nm, .slice A1 t.ns.length c1, .bool t.ng, .slice A2 t.mg.length c2, .slice A3 t.ks.length c3, .int .i64 (a' : Nat), .int .i64 0, .int .i64 0]) ∧ r = ws.drop a' ∧ a' ≤ ws.length ∧ T.In w' (DR R0 w.heap.size w'.heap.size) t (.agg #[.int .i64 t.k, .string t.nm, .slice A1 t.ns.length c1, .bool t.ng, .slice A2 t.mg.length c2, .slice A3 t.ks.length c3])) ∧ Below w.heap.size w w' := by
  have := h w a z hz hp ha (by rw [hX]; intro h; cases h)
  rw [hX] at this
  exact this
theorem DRule.bad {f fn : Nat} {nt : P.NT} {cd p : Nat} {z : Int} (h : DRule R0 A c ws e f nt fn) (hp : Dx w R0 A ws) (ha : a ≤ ws.length) (hz : z = (a : Nat)) (hX : P.G e f nt (ws.drop a) = .bad cd p) :
    Calls Tryz.prog fn #[xv A ws.length c e, .int .i64 z] w fun ex w' => cd ≠ 0 ∧ (∃ z : Int, ex = .returned (.agg #[.int .i64 0, .string ⟨#[]⟩, .slice none 0 0, .bool false, .slice none 0 0, .slice none 0 0, .int .i64 z, .int .i64 (cd : Nat), .int .i64 (p : Nat)])) ∧ Below w.heap.size w w' := by
  have := h w a z hz hp ha (by rw [hX]; intro h; cases h)
  rw [hX] at this
  exact this
end
theorem SlR.mono {w : World} {R R' : Nat → Prop} {A : Option Addr} {c : Nat} {l : List Nat} (h : SlR w R A c l) (hR : ∀ b, R b → R' b) : SlR w R' A c l := ⟨h.1, fun hn ad e => hR _ (h.2 hn ad e)⟩
theorem in_leaf {w : World} {R R0 : Nat → Prop} {k : Int} {nm : ByteArray} {B : Option Addr} {d : Nat} {mg : List Nat} (hR : ∀ b, R0 b → R b) (hl : Lm w R0 B d mg) : T.In w R (.node k nm [] false mg []) (.agg #[.int .i64 k, .string nm, .slice none 0 0, .bool false, .slice B mg.length d, .slice none 0 0]) := by
 rw [T.In]
 exact ⟨none, 0, B, d, none, 0, rfl, ⟨Nat.le_refl _, fun h => absurd h (by simp)⟩, hl.1.mono hR, Nat.le_refl _, fun h => absurd h (by simp)⟩
theorem in_oneD {w : World} {R R' R0 : Nat → Prop} {t : T} {g : Nat} {a0 a1 a2 a3 a4 a5 : Value} {k : Int} {nm : ByteArray} {ns : List ByteArray} {mg : List Nat} {A1 A2 : Option Addr} {c1 c2 : Nat} (hn : StrL w R' A1 c1 ns) (hl : Lm w R0 A2 c2 mg) (hp : Blk w g 28 #[a0, a1, a2, a3, a4, a5]) (h : T.In w R t (.agg #[a0, a1, a2, a3, a4, a5])) (h0 : ∀ b, R0 b → R' b) (hR : ∀ b, R b → R' b) (hg : R' g) :
    T.In w R' (.node k nm ns false mg [t]) (.agg #[.int .i64 k, .string nm, .slice A1 ns.length c1, .bool false, .slice A2 mg.length c2, .slice (some ⟨g, 0, none⟩) 1 1]) := by
  rw [T.In]
  refine ⟨A1, c1, A2, c2, some ⟨g, 0, none⟩, 1, rfl, hn, hl.1.mono h0, Nat.le_refl _, fun _ => ⟨_, _, rfl, hg, ?_⟩⟩
  rw [T.Ins, T.Ins]
  exact ⟨⟨_, _, _, _, _, _, ⟨hp.cell 0, hp.cell 1, hp.cell 2, hp.cell 3, hp.cell 4, hp.cell 5⟩, h.mono hR⟩, trivial⟩
theorem in_two {w : World} {R R2 R' : Nat → Prop} {t u : T} {g : Nat} {a0 a1 a2 a3 a4 a5 b0 b1 b2 b3 b4 b5 : Value} {k : Int} (hp : Blk w g 28 #[a0, a1, a2, a3, a4, a5, b0, b1, b2, b3, b4, b5]) (h : T.In w R t (.agg #[a0, a1, a2, a3, a4, a5])) (h' : T.In w R2 u (.agg #[b0, b1, b2, b3, b4, b5])) (hR : ∀ b, R b → R' b) (hR2 : ∀ b, R2 b → R' b) (hg : R' g) :
    T.In w R' (P.nd k [t, u]) (.agg #[.int .i64 k, .string ⟨#[]⟩, .slice none 0 0, .bool false, .slice none 0 0, .slice (some ⟨g, 0, none⟩) 2 2]) := by
  unfold P.nd
  rw [T.In]
  refine ⟨none, 0, none, 0, some ⟨g, 0, none⟩, 2, rfl, ⟨Nat.le_refl _, fun h => absurd h (by simp)⟩, ⟨Sl.nil _ _ _, fun h => absurd h (by simp)⟩, Nat.le_refl _, fun _ => ⟨_, _, rfl, hg, ?_⟩⟩
  rw [T.Ins, T.Ins, T.Ins]
  exact ⟨⟨_, _, _, _, _, _, ⟨hp.cell 0, hp.cell 1, hp.cell 2, hp.cell 3, hp.cell 4, hp.cell 5⟩, h.mono hR⟩, ⟨_, _, _, _, _, _, ⟨hp.cell 6, hp.cell 7, hp.cell 8, hp.cell 9, hp.cell 10, hp.cell 11⟩, h'.mono hR2⟩, trivial⟩
theorem strl_nil (w : World) (R : Nat → Prop) : StrL w R none 0 [] := ⟨Nat.le_refl _, fun h => absurd h (by simp)⟩
theorem Blk.far6 {w : World} {b b' : Nat} {t : TypeId} {cs : Array Value} (h : Blk w b t cs) (hne : b ≠ b') (v0 v1 v2 v3 v4 v5 : Value) : Blk (((((((((((w.setCell ⟨b', 0, none⟩ v0)).setCell ⟨b', 1, none⟩ v1)).setCell ⟨b', 2, none⟩ v2)).setCell ⟨b', 3, none⟩ v3)).setCell ⟨b', 4, none⟩ v4)).setCell ⟨b', 5, none⟩ v5) b t cs :=
 (((((h.far hne 0 v0).far hne 1 v1).far hne 2 v2).far hne 3 v3).far hne 4 v4).far hne 5 v5
theorem below_set6 {B b : Nat} {w0 w : World} (h : Below B w0 w) (hb : B ≤ b) (v0 v1 v2 v3 v4 v5 : Value) : Below B w0 (((((((((((w.setCell ⟨b, 0, none⟩ v0)).setCell ⟨b, 1, none⟩ v1)).setCell ⟨b, 2, none⟩ v2)).setCell ⟨b, 3, none⟩ v3)).setCell ⟨b, 4, none⟩ v4)).setCell ⟨b, 5, none⟩ v5) :=
 (((((h.setCell hb _).setCell hb _).setCell hb _).setCell hb _).setCell hb _).setCell hb _
theorem fr9 (w : World) (b : Nat) (u0 u1 u2 u3 u4 u5 u6 u7 u8 : Value) : Fr w (((((((((((((((((w.setCell ⟨b, 0, none⟩ u0)).setCell ⟨b, 1, none⟩ u1)).setCell ⟨b, 2, none⟩ u2)).setCell ⟨b, 3, none⟩ u3)).setCell ⟨b, 4, none⟩ u4)).setCell ⟨b, 5, none⟩ u5)).setCell ⟨b, 6, none⟩ u6)).setCell ⟨b, 7, none⟩ u7)).setCell ⟨b, 8, none⟩ u8) (fun k => k = b) :=
 (((((((((Fr.refl w (fun k => k = b)).set (b := b) (.inl rfl) 0 u0).set (b := b) (.inl rfl) 1 u1).set (b := b) (.inl rfl) 2 u2).set (b := b) (.inl rfl) 3 u3).set (b := b) (.inl rfl) 4 u4).set (b := b) (.inl rfl) 5 u5).set (b := b) (.inl rfl) 6 u6).set (b := b) (.inl rfl) 7 u7).set (b := b) (.inl rfl) 8 u8
theorem T.In.far {w w' : World} {R : Nat → Prop} {b : Nat} {t : T} {v : Value} (h : T.In w R t v) (hf : Fr w w' (fun k => k = b)) (hb : ¬ R b) : T.In w' R t v :=
 T.In.keep (fun p _ hp hc => hf.cell hc (fun e => hb ((show p.block = b from e) ▸ hp))) (fun _ h => h) t v h
theorem Lm.far {w w' : World} {R0 : Nat → Prop} {b : Nat} {A : Option Addr} {c : Nat} {l : List Nat} (h : Lm w R0 A c l) (hf : Fr w w' (fun k => k = b)) (hb : ¬ R0 b) : Lm w' R0 A c l :=
 h.keep (Kp.of_fr hf (fun k hk e => hb ((show k = b from e) ▸ hk)))
theorem dans_ok {w w7 : World} {R0 R : Nat → Prop} {ws : List Wd} {t : T} {A1 A2 A3 : Option Addr} {c1 c2 c3 a' : Nat} (hV : Below w.heap.size w w7) (hin : T.In w7 R t (.agg #[.int .i64 t.k, .string t.nm, .slice A1 t.ns.length c1, .bool t.ng, .slice A2 t.mg.length c2, .slice A3 t.ks.length c3])) (hR : ∀ b, R b → R0 b ∨ w.heap.size ≤ b) (hq : ∀ b, R b → b < w7.heap.size) (ha : a' ≤ ws.length) :
    DAns R0 w ws (.ok t (ws.drop a')) (.returned (.agg #[.int .i64 t.k, .string t.nm, .slice A1 t.ns.length c1, .bool t.ng, .slice A2 t.mg.length c2, .slice A3 t.ks.length c3, .int .i64 (a' : Nat), .int .i64 0, .int .i64 0])) w7 :=
  ⟨⟨A1, c1, A2, c2, A3, c3, a', rfl, rfl, ha, hin.mono (fun b hb => (hR b hb).imp id (fun h => ⟨h, hq b hb⟩))⟩, hV⟩
theorem dans_bad {w w7 : World} {R0 : Nat → Prop} {ws : List Wd} {cd p : Nat} {z : Int} (hV : Below w.heap.size w w7) (hc : cd ≠ 0) :
    DAns R0 w ws (.bad cd p) (.returned (.agg #[.int .i64 0, .string ⟨#[]⟩, .slice none 0 0, .bool false, .slice none 0 0, .slice none 0 0, .int .i64 z, .int .i64 (cd : Nat), .int .i64 (p : Nat)])) w7 := ⟨hc, ⟨_, rfl⟩, hV⟩
theorem fr1 (w : World) (b k : Nat) (u : Value) : Fr w (w.setCell ⟨b, k, none⟩ u) (fun j => j = b) := (Fr.refl w (fun j => j = b)).set (b := b) (.inl rfl) k u
theorem Dx.far {w w' : World} {R0 : Nat → Prop} {A : Option Addr} {ws : List Wd} {b : Nat} (h : Dx w R0 A ws) (hf : Fr w w' (fun k => k = b)) (hb : ¬ R0 b) : Dx w' R0 A ws :=
 ⟨h.1.keep (Kp.of_fr hf (fun k hk e => hb ((show k = b from e) ▸ hk))), h.2.1, fun k hk => Nat.lt_of_lt_of_le (h.2.2 k hk) hf.size⟩
theorem row_two {w : World} {R1 R2 : Nat → Prop} {t u : T} {k : Int} {g : Nat} {a0 a1 a2 a3 a4 a5 b0 b1 b2 b3 b4 b5 : Value} (h1 : T.In w R1 t (.agg #[a0, a1, a2, a3, a4, a5])) (h2 : T.In w R2 u (.agg #[b0, b1, b2, b3, b4, b5])) (n1 : ¬ R1 g) (n2 : ¬ R2 g) (hg : g < w.heap.size) {w7 : World}
    (h7 : Fr (w.alloc (.cells #[a0, a1, a2, a3, a4, a5, b0, b1, b2, b3, b4, b5] 28)) w7 (fun k => k = g)) :
    T.In w7 (fun b => R1 b ∨ R2 b ∨ b = w.heap.size) (P.nd k [t, u]) (.agg #[.int .i64 k, .string ⟨#[]⟩, .slice none 0 0, .bool false, .slice none 0 0, .slice (some ⟨w.heap.size, 0, none⟩) 2 2]) := by
  have hb5 := below_alloc1 w (.cells #[a0, a1, a2, a3, a4, a5, b0, b1, b2, b3, b4, b5] 28)
  have p5 := Blk.new w 28 #[a0, a1, a2, a3, a4, a5, b0, b1, b2, b3, b4, b5]
  exact in_two (h7.blk p5 (by show ¬ _ = _; omega)) ((h1.below hb5).far h7 n1) ((h2.below hb5).far h7 n2) (fun _ h => .inl h) (fun _ h => .inr (.inl h)) (.inr (.inr rfl))
theorem dans_one {w w4 : World} {R0 R : Nat → Prop} {ws : List Wd} {g1 g2 a' : Nat} {u : T} {a0 a1 a2 a3 a4 a5 : Value} {k : Int} {mg : List Nat} {A2 : Option Addr} {c2 : Nat} {v0 v1 v2 v3 v4 v5 u0 u1 u2 u3 u4 u5 u6 u7 u8 : Value} (hV : Below w.heap.size w w4) (h1 : w.heap.size ≤ g1) (h2 : w.heap.size ≤ g2) (hl1 : g1 < w4.heap.size) (hl2 : g2 < w4.heap.size) (h0 : ∀ b, R0 b → b < w.heap.size)
    (hin : T.In w4 R u (.agg #[a0, a1, a2, a3, a4, a5])) (hR : ∀ b, R b → R0 b ∨ (w.heap.size ≤ b ∧ b < w4.heap.size)) (hr1 : ¬ R g1) (hr2 : ¬ R g2) (hm : Lm w4 R0 A2 c2 mg) (ha : a' ≤ ws.length) {w7 : World}
    (h7 : w7 = (((((((((((((((((((((((((((((w4.alloc (.cells #[a0, a1, a2, a3, a4, a5] 28)).setCell ⟨g2, 0, none⟩ v0)).setCell ⟨g2, 1, none⟩ v1)).setCell ⟨g2, 2, none⟩ v2)).setCell ⟨g2, 3, none⟩ v3)).setCell ⟨g2, 4, none⟩ v4)).setCell ⟨g2, 5, none⟩ v5).setCell ⟨g1, 0, none⟩ u0)).setCell ⟨g1, 1, none⟩ u1)).setCell ⟨g1, 2, none⟩ u2)).setCell ⟨g1, 3, none⟩ u3)).setCell ⟨g1, 4, none⟩ u4)).setCell ⟨g1, 5, none⟩ u5)).setCell ⟨g1, 6, none⟩ u6)).setCell ⟨g1, 7, none⟩ u7)).setCell ⟨g1, 8, none⟩ u8)) :
    DAns R0 w ws (.ok (.node k ⟨#[]⟩ [] false mg [u]) (ws.drop a')) (.returned (.agg #[.int .i64 k, .string ⟨#[]⟩, .slice none 0 0, .bool false, .slice A2 mg.length c2, .slice (some ⟨w4.heap.size, 0, none⟩) 1 1, .int .i64 (a' : Nat), .int .i64 0, .int .i64 0])) w7 := by
  subst h7
  have hb5 := below_alloc1 w4 (.cells #[a0, a1, a2, a3, a4, a5] 28)
  have p5 := Blk.new w4 28 #[a0, a1, a2, a3, a4, a5]
  have hs5 : (w4.alloc (.cells #[a0, a1, a2, a3, a4, a5] 28)).heap.size = w4.heap.size + 1 := by simp
  have hf6 := fr6 (w4.alloc (.cells #[a0, a1, a2, a3, a4, a5] 28)) g2 v0 v1 v2 v3 v4 v5
  have hf7 := fr9 ((((((((((((w4.alloc (.cells #[a0, a1, a2, a3, a4, a5] 28)).setCell ⟨g2, 0, none⟩ v0)).setCell ⟨g2, 1, none⟩ v1)).setCell ⟨g2, 2, none⟩ v2)).setCell ⟨g2, 3, none⟩ v3)).setCell ⟨g2, 4, none⟩ v4)).setCell ⟨g2, 5, none⟩ v5) g1 u0 u1 u2 u3 u4 u5 u6 u7 u8
  have n1 : ¬ R0 g1 := fun h => by have := h0 _ h; omega
  have n2 : ¬ R0 g2 := fun h => by have := h0 _ h; omega
  have hs7 := hf7.size
  have hs6 := hf6.size
  refine ⟨⟨none, 0, A2, c2, some ⟨w4.heap.size, 0, none⟩, 1, a', rfl, rfl, ha, ?_⟩, ?_⟩
  · refine in_oneD (R := R) (R0 := R0) (strl_nil _ _) (((hm.keep (.of_below hb5)).far hf6 n2).far hf7 n1) (hf7.blk (hf6.blk p5 (by show ¬ _ = _; omega)) (by show ¬ _ = _; omega)) (((hin.below hb5).far hf6 hr2).far hf7 hr1) (fun _ h => .inl h) (fun b hb => ?_) (.inr ⟨by have := hV.size; omega, by omega⟩)
    rcases hR b hb with h | h
    · exact .inl h
    · exact .inr ⟨h.1, by omega⟩
  · exact below_set9 (below_set6 (below_on hV hb5) h2 _ _ _ _ _ _) h1 _ _ _ _ _ _ _ _ _
end
section
open Go.RowKit
attribute [local go_sem] Oper.semAt_some
section
variable {R0 : Nat → Prop} {A : Option Addr} {c e : Nat} {ws : List Wd}
set_option maxRecDepth 100000 in
set_option maxHeartbeats 6400000 in
theorem form_d (f : Nat) (hop : ∀ f', f' ≤ f → DRule R0 A c ws e f' .impl 63) : DRule R0 A c ws e (f + 1) .form 34 := by
 intro w a z hz h ha hX
 subst hz
 rw [P.G_succ] at hX ⊢
 obtain ⟨X, hXe⟩ : ∃ X, P.step e (P.G e f) .form (ws.drop a) = X := ⟨_, rfl⟩
 rw [hXe] at hX ⊢
 unfold xv
 obtain ⟨w0, g0, g1, hW, hg0, hg1, ps0, pr0, hV0⟩ := enter_d w A ws.length c e
 have h0 := h.below hV0
 have hn := h.2.1
 have hz0 := h.2.2
 have ha1 : a ≤ 1048577 := by omega
 have hl1 : w.heap.size ≤ g1 := by omega
 have hl0 : w.heap.size ≤ g0 := by omega
 have wa1 : IntKind.i64.wrap ((a : Int) + 1) = (a : Int) + 1 := wrap_nat (by omega) (by omega)
 have HW := Lib.hid hW
 have HG0 := Lib.hid hg0
 have HG1 := Lib.hid hg1
 clear h hW hg0 hg1
 have HOP := Lib.hid hop
 clear hop
 have hXe : (P.G e f .impl (ws.drop a)).bind (fun t r => P.G e f (.formL t) r) = X := hXe
 cases hY : P.G e f .impl (ws.drop a) with
 | out => rw [hY] at hXe; exact absurd hXe.symm hX
 | bad cd p =>
  rw [hY] at hXe
  have hXe : P.Rd.bad cd p = X := hXe
  subst hXe
  have HY := Lib.hid hY
  clear hX hY
  go_enter Tryz.func34, Tryz.ntmps34
  go_upto_region 1 with (fail)
  rw [← HW.out, ← HG1.out, ← HG0.out]
  obtain ⟨y0, y1⟩ := ps0.duo
  go_upto_region 2 with (go_at_call 63; refine ((HOP.out f (Nat.le_refl _)).bad h0 ha (by omega) HY.out).mono ?_; rintro ex w1 ⟨hcd, ⟨z3, rfl⟩, hb1⟩)
  have cd0 : ((cd : Int) == 0) = false := by simp; omega
  have cd1 : ((cd : Int) != 0) = true := by simp; omega
  have h1 := h0.below hb1
  have hV1 := below_on hV0 hb1
  have ps1 := ps0.below hb1
  have pr1 := pr0.below hb1
  clear h0 hV0 ps0 pr0 y0 y1
  obtain ⟨y0, y1⟩ := ps1.duo
  obtain ⟨w2, hw2, pg22, hb2⟩ := made_blk w1 #[.int .i64 0, .string ⟨#[]⟩, .slice none 0 0, .bool false, .slice none 0 0, .slice none 0 0, .int .i64 z3, .int .i64 (cd : Nat), .int .i64 (p : Nat)] 56
  obtain ⟨g2, hg2⟩ : ∃ x, x = w1.heap.size := ⟨_, rfl⟩
  rw [← hw2, ← hg2]
  rw [← hg2] at pg22
  have lg2 : w.heap.size ≤ g2 := by have := hV1.size; omega
  have neg2 : g1 ≠ g2 := by have := pr1.lt; omega
  have nzg2 : g0 ≠ g2 := by have := ps1.lt; omega
  clear hw2 hg2
  have h2 := h1.below hb2
  have hV2 := below_on hV1 hb2
  have ps2 := ps1.below hb2
  have pr2 := pr1.below hb2
  clear h1 hV1 ps1 pr1 y0 y1
  obtain ⟨y0, y1⟩ := ps2.duo
  clear y0 y1
  go_loopg [6] 1 (fun gk _ wr => wr = w2)
  case atStart => rfl
  case round =>
   obtain rfl := hrel
   have qx := pg22.open9
   obtain ⟨⟨p0, p1, p2, p3, p4, p5, p6, p7, p8⟩, z0, z1, z2, z3, z4, z5, z6, z7, z8⟩ := pr2.open9
   go_wp2_with fail
   refine bodyPost_ret (results_rl rfl _ _ _ _ _ _ _ _ _ _ _ _ rfl (pr2.set9 _ _ _ _ _ _ _ _ _)) rfl ?_
   exact dans_bad (below_set9 hV2 hl1 _ _ _ _ _ _ _ _ _) hcd
 | ok u r =>
  rw [hY] at hXe
  have hXe : P.G e f (.formL u) r = X := hXe
  have HY := Lib.hid hY
  clear hY
  go_enter Tryz.func34, Tryz.ntmps34
  go_upto_region 1 with (fail)
  rw [← HW.out, ← HG1.out, ← HG0.out]
  obtain ⟨y0, y1⟩ := ps0.duo
  go_upto_region 2 with (go_at_call 63; refine ((HOP.out f (Nat.le_refl _)).ok h0 ha (by omega) HY.out).mono ?_; rintro ex w1 ⟨⟨A1, c1, A2, c2, A3, c3, a', rfl, rfl, ha', hin⟩, hb1⟩)
  obtain ⟨Ru, hRu⟩ : ∃ R : Nat → Prop, DR R0 w0.heap.size w1.heap.size = R := ⟨_, rfl⟩
  rw [hRu] at hin
  have hinu1 := hin
  clear hin
  have nug1 : ¬ Ru g1 := by
   rw [← hRu]
   rintro (h | ⟨h, _⟩)
   · have := hz0 _ h; omega
   · have := pr0.lt; omega
  have hqu : ∀ b, Ru b → b < w1.heap.size := by
   rw [← hRu]
   rintro b (h | ⟨_, h⟩)
   · have := hz0 _ h; have := hV0.size; have := hb1.size; omega
   · exact h
  have hwu : ∀ b, Ru b → R0 b ∨ w.heap.size ≤ b := by
   rw [← hRu]
   rintro b (h | ⟨h, _⟩)
   · exact .inl h
   · exact .inr (Nat.le_trans hV0.size h)
  clear hRu
  have h1 := h0.below hb1
  have hV1 := below_on hV0 hb1
  have ps1 := ps0.below hb1
  have pr1 := pr0.below hb1
  clear h0 hV0 ps0 pr0 y0 y1
  obtain ⟨y0, y1⟩ := ps1.duo
  obtain ⟨w2, hw2, pg22, hb2⟩ := made_blk w1 #[.int .i64 u.k, .string u.nm, .slice A1 u.ns.length c1, .bool u.ng, .slice A2 u.mg.length c2, .slice A3 u.ks.length c3, .int .i64 (a' : Nat), .int .i64 0, .int .i64 0] 56
  obtain ⟨g2, hg2⟩ : ∃ x, x = w1.heap.size := ⟨_, rfl⟩
  rw [← hw2, ← hg2]
  rw [← hg2] at pg22
  have lg2 : w.heap.size ≤ g2 := by have := hV1.size; omega
  have neg2 : g1 ≠ g2 := by have := pr1.lt; omega
  have nzg2 : g0 ≠ g2 := by have := ps1.lt; omega
  have nug2 : ¬ Ru g2 := fun h => by have := hqu _ h; omega
  have hinu2 := hinu1.below hb2
  replace hqu : ∀ b, Ru b → b < w2.heap.size := fun b h => Nat.lt_of_lt_of_le (hqu b h) hb2.size
  clear hw2 hg2
  have h2 := h1.below hb2
  have hV2 := below_on hV1 hb2
  have ps2 := ps1.below hb2
  have pr2 := pr1.below hb2
  clear h1 hV1 ps1 pr1 y0 y1
  obtain ⟨y0, y1⟩ := ps2.duo
  clear y0 y1
  go_wp2_with fail
  go_loopg [6] (ws.length + 1 - a') (fun gk _ wr => ∃ (a1 m1 : Nat) (t : T) (B1 : Option Addr) (d1 : Nat) (B2 : Option Addr) (d2 : Nat) (B3 : Option Addr) (d3 : Nat) (Rt : Nat → Prop), gk + a1 = ws.length + 1 ∧ m1 ≤ f ∧ X = P.G e m1 (.formL t) (ws.drop a1) ∧ a1 ≤ ws.length ∧ Dx wr R0 A ws ∧ Below w.heap.size w wr ∧ Blk wr g0 54 #[.slice A ws.length c, .int .i64 (e : Nat)] ∧ Blk wr g1 56 #[.int .i64 0, .string ⟨#[]⟩, .slice none 0 0, .bool false, .slice none 0 0, .slice none 0 0, .int .i64 0, .int .i64 0, .int .i64 0] ∧ Blk wr g2 56 #[.int .i64 t.k, .string t.nm, .slice B1 t.ns.length d1, .bool t.ng, .slice B2 t.mg.length d2, .slice B3 t.ks.length d3, .int .i64 (a1 : Nat), .int .i64 0, .int .i64 0] ∧ T.In wr Rt t (.agg #[.int .i64 t.k, .string t.nm, .slice B1 t.ns.length d1, .bool t.ng, .slice B2 t.mg.length d2, .slice B3 t.ks.length d3]) ∧ ¬ Rt g1 ∧ ¬ Rt g2 ∧ (∀ b, Rt b → b < wr.heap.size) ∧ (∀ b, Rt b → R0 b ∨ w.heap.size ≤ b))
  case atStart => exact ⟨a', f, u, A1, c1, A2, c2, A3, c3, Ru, by omega, Nat.le_refl _, hXe.symm, ha', h2, hV2, ps2, pr2, pg22, hinu2, nug1, nug2, hqu, hwu⟩
  case round =>
   clear h2 hV2 ps2 pr2 pg22 hinu2 nug1 nug2 hqu hwu hXe ha'
   obtain ⟨a1, m1, t, B1, d1, B2, d2, B3, d3, Rt, hgk, hm1, hXe, ha1', h10, hV10, ps10, pr10, pg210, hint10, ntg1, ntg2, hqt, hwt⟩ := hrel
   obtain ⟨X2, hX2⟩ : ∃ x, P.tx (ws.drop a1) = x := ⟨_, rfl⟩
   have HWD := Lib.hid (fun (w' : World) (h : Dx w' R0 A ws) => by have h := word_d (c := c) (e := e) h a1 (by omega) _ rfl; rw [hX2] at h; exact h)
   have wa3 : IntKind.i64.wrap ((a1 : Int) + 1) = (a1 : Int) + 1 := wrap_nat (by omega) (by omega)
   have m105_102_102 : (X2.toList == [105, 102, 102]) = P.isW ⟨#[105, 102, 102]⟩ (ws.drop a1) := by rw [← hX2]; exact tx_beq ⟨#[105, 102, 102]⟩ (by decide) _
   clear hX2
   cases m1 with
   | zero => exact absurd hXe hX
   | succ m2 =>
    rw [P.G_succ] at hXe
    by_cases c105_102_102 : P.isW ⟨#[105, 102, 102]⟩ (ws.drop a1) = true
    ·
     simp only [P.step, c105_102_102, if_true, tail_drop] at hXe
     have hal := isW_lt c105_102_102
     rw [c105_102_102] at m105_102_102
     clear c105_102_102
     cases hY : P.G e m2 .impl (ws.drop (a1 + 1)) with
     | out => rw [hY] at hXe; exact absurd hXe hX
     | bad cd p =>
      rw [hY] at hXe
      have hXe : X = .bad cd p := hXe
      have HY := Lib.hid hY
      clear hY
      have qx := pg210.open9
      obtain ⟨y0, y1⟩ := ps10.duo
      go_upto_region 3 with (first
       | (go_at_call 64; refine (HWD.out _ h10).mono ?_; rintro ex w11 ⟨rfl, hb11⟩; have h11 := h10.below hb11; have hV11 := below_on hV10 hb11; have ps11 := ps10.below hb11; have pr11 := pr10.below hb11; have pg211 := pg210.below hb11; have hint11 := hint10.below hb11; replace hqt : ∀ b, Rt b → b < w11.heap.size := fun b h => Nat.lt_of_lt_of_le (hqt b h) hb11.size; clear h10 hV10 ps10 pr10 y0 y1 pg210 qx hint10; obtain ⟨y0, y1⟩ := ps11.duo; have qx := pg211.open9))
      go_upto_region 4 with (go_at_call 63; refine ((HOP.out m2 (by omega)).bad h11 hal (by omega) HY.out).mono ?_; rintro ex w12 ⟨hcd, ⟨z3, rfl⟩, hb12⟩)
      have cd0 : ((cd : Int) == 0) = false := by simp; omega
      have cd1 : ((cd : Int) != 0) = true := by simp; omega
      have h12 := h11.below hb12
      have hV12 := below_on hV11 hb12
      have ps12 := ps11.below hb12
      have pr12 := pr11.below hb12
      have pg212 := pg211.below hb12
      clear h11 hV11 ps11 pr11 y0 y1 pg211
      obtain ⟨y0, y1⟩ := ps12.duo
      obtain ⟨w13, hw13, pg313, hb13⟩ := made_blk w12 #[.int .i64 0, .string ⟨#[]⟩, .slice none 0 0, .bool false, .slice none 0 0, .slice none 0 0, .int .i64 z3, .int .i64 (cd : Nat), .int .i64 (p : Nat)] 56
      obtain ⟨g3, hg3⟩ : ∃ x, x = w12.heap.size := ⟨_, rfl⟩
      rw [← hw13, ← hg3]
      rw [← hg3] at pg313
      have lg3 : w.heap.size ≤ g3 := by have := hV12.size; omega
      have neg3 : g1 ≠ g3 := by have := pr12.lt; omega
      have nzg3 : g0 ≠ g3 := by have := ps12.lt; omega
      have neg2g3 : g2 ≠ g3 := by have := pg212.lt; omega
      clear hw13 hg3
      have h13 := h12.below hb13
      have hV13 := below_on hV12 hb13
      have ps13 := ps12.below hb13
      have pr13 := pr12.below hb13
      have pg213 := pg212.below hb13
      clear h12 hV12 ps12 pr12 y0 y1 pg212
      obtain ⟨y0, y1⟩ := ps13.duo
      clear qx
      have qx := pg313.open9
      obtain ⟨⟨p0, p1, p2, p3, p4, p5, p6, p7, p8⟩, z0, z1, z2, z3, z4, z5, z6, z7, z8⟩ := pr13.open9
      go_wp2_with fail
      refine bodyPost_ret (results_rl rfl _ _ _ _ _ _ _ _ _ _ _ _ rfl (pr13.set9 _ _ _ _ _ _ _ _ _)) rfl ?_
      rw [hXe]
      exact dans_bad (below_set9 hV13 hl1 _ _ _ _ _ _ _ _ _) hcd
     | ok u r =>
      rw [hY] at hXe
      have hXe : X = P.G e m2 (.formL (P.nd 20 [t, u])) r := hXe
      have hgl := P.G_len _ _ _ _ _ _ hY
      have HY := Lib.hid hY
      clear hY
      have qx := pg210.open9
      obtain ⟨y0, y1⟩ := ps10.duo
      go_upto_region 3 with (first
       | (go_at_call 64; refine (HWD.out _ h10).mono ?_; rintro ex w11 ⟨rfl, hb11⟩; have h11 := h10.below hb11; have hV11 := below_on hV10 hb11; have ps11 := ps10.below hb11; have pr11 := pr10.below hb11; have pg211 := pg210.below hb11; have hint11 := hint10.below hb11; replace hqt : ∀ b, Rt b → b < w11.heap.size := fun b h => Nat.lt_of_lt_of_le (hqt b h) hb11.size; clear h10 hV10 ps10 pr10 y0 y1 pg210 qx hint10; obtain ⟨y0, y1⟩ := ps11.duo; have qx := pg211.open9))
      go_upto_region 4 with (go_at_call 63; refine ((HOP.out m2 (by omega)).ok h11 hal (by omega) HY.out).mono ?_; rintro ex w12 ⟨⟨A1, c1, A2, c2, A3, c3, a', rfl, rfl, ha', hin⟩, hb12⟩)
      obtain ⟨Ru, hRu⟩ : ∃ R : Nat → Prop, DR R0 w11.heap.size w12.heap.size = R := ⟨_, rfl⟩
      rw [hRu] at hin
      have hinu12 := hin
      clear hin
      have nug1 : ¬ Ru g1 := by
       rw [← hRu]
       rintro (h | ⟨h, _⟩)
       · have := hz0 _ h; omega
       · have := pr11.lt; omega
      have nug2 : ¬ Ru g2 := by
       rw [← hRu]
       rintro (h | ⟨h, _⟩)
       · have := hz0 _ h; omega
       · have := pg211.lt; omega
      have hqu : ∀ b, Ru b → b < w12.heap.size := by
       rw [← hRu]
       rintro b (h | ⟨_, h⟩)
       · have := hz0 _ h; have := hV11.size; have := hb12.size; omega
       · exact h
      have hwu : ∀ b, Ru b → R0 b ∨ w.heap.size ≤ b := by
       rw [← hRu]
       rintro b (h | ⟨h, _⟩)
       · exact .inl h
       · exact .inr (Nat.le_trans hV11.size h)
      clear hRu
      have hint12 := hint11.below hb12
      replace hqt : ∀ b, Rt b → b < w12.heap.size := fun b h => Nat.lt_of_lt_of_le (hqt b h) hb12.size
      have h12 := h11.below hb12
      have hV12 := below_on hV11 hb12
      have ps12 := ps11.below hb12
      have pr12 := pr11.below hb12
      have pg212 := pg211.below hb12
      clear h11 hV11 ps11 pr11 y0 y1 pg211
      obtain ⟨y0, y1⟩ := ps12.duo
      obtain ⟨w13, hw13, pg313, hb13⟩ := made_blk w12 #[.int .i64 u.k, .string u.nm, .slice A1 u.ns.length c1, .bool u.ng, .slice A2 u.mg.length c2, .slice A3 u.ks.length c3, .int .i64 (a' : Nat), .int .i64 0, .int .i64 0] 56
      obtain ⟨g3, hg3⟩ : ∃ x, x = w12.heap.size := ⟨_, rfl⟩
      rw [← hw13, ← hg3]
      rw [← hg3] at pg313
      have lg3 : w.heap.size ≤ g3 := by have := hV12.size; omega
      have neg3 : g1 ≠ g3 := by have := pr12.lt; omega
      have nzg3 : g0 ≠ g3 := by have := ps12.lt; omega
      have neg2g3 : g2 ≠ g3 := by have := pg212.lt; omega
      have nug3 : ¬ Ru g3 := fun h => by have := hqu _ h; omega
      have hinu13 := hinu12.below hb13
      replace hqu : ∀ b, Ru b → b < w13.heap.size := fun b h => Nat.lt_of_lt_of_le (hqu b h) hb13.size
      have ntg3 : ¬ Rt g3 := fun h => by have := hqt _ h; omega
      have hint13 := hint12.below hb13
      replace hqt : ∀ b, Rt b → b < w13.heap.size := fun b h => Nat.lt_of_lt_of_le (hqt b h) hb13.size
      clear hw13 hg3
      have h13 := h12.below hb13
      have hV13 := below_on hV12 hb13
      have ps13 := ps12.below hb13
      have pr13 := pr12.below hb13
      have pg213 := pg212.below hb13
      clear h12 hV12 ps12 pr12 y0 y1 pg212
      obtain ⟨y0, y1⟩ := ps13.duo
      clear qx
      have HA := below_alloc1 w13 (.cells #[.int .i64 t.k, .string t.nm, .slice B1 t.ns.length d1, .bool t.ng, .slice B2 t.mg.length d2, .slice B3 t.ks.length d3, .int .i64 u.k, .string u.nm, .slice A1 u.ns.length c1, .bool u.ng, .slice A2 u.mg.length c2, .slice A3 u.ks.length c3] 28)
      have qx := pg213.open9
      obtain ⟨⟨p0, p1, p2, p3, p4, p5, p6, p7, p8⟩, z0, z1, z2, z3, z4, z5, z6, z7, z8⟩ := pg313.open9
      have rv := (pg213.below HA).open9
      have sk := (pg313.below HA).open9
      go_wp2_with fail
      have hfr := fr9 (w13.alloc (.cells #[.int .i64 t.k, .string t.nm, .slice B1 t.ns.length d1, .bool t.ng, .slice B2 t.mg.length d2, .slice B3 t.ks.length d3, .int .i64 u.k, .string u.nm, .slice A1 u.ns.length c1, .bool u.ng, .slice A2 u.mg.length c2, .slice A3 u.ks.length c3] 28)) g2 (.int .i64 20) (.string ⟨#[]⟩) (.slice none 0 0) (.bool false) (.slice none 0 0) (.slice (some ⟨w13.heap.size, 0, none⟩) 2 2) (.int .i64 (a' : Nat)) (.int .i64 0) (.int .i64 0)
      have hsz := hfr.size
      have hsa : (w13.alloc (.cells #[.int .i64 t.k, .string t.nm, .slice B1 t.ns.length d1, .bool t.ng, .slice B2 t.mg.length d2, .slice B3 t.ks.length d3, .int .i64 u.k, .string u.nm, .slice A1 u.ns.length c1, .bool u.ng, .slice A2 u.mg.length c2, .slice A3 u.ks.length c3] 28)).heap.size = w13.heap.size + 1 := by simp
      have hl2 := pg213.lt
      have hvs := hV13.size
      have hgl2 := hgl.2 rfl
      simp only [List.length_drop] at hgl2
      have hrt := row_two (k := 20) hint13 hinu13 ntg2 nug2 hl2 hfr
      go_roundg (ws.length + 1 - a')
      case measure => omega
      case rel =>
       refine ⟨a', m2, _, none, 0, none, 0, _, 2, _, by omega, by omega, hXe, ha', ((h13.below HA).far hfr (fun h => by have := hz0 _ h; omega)), below_set9 (below_on hV13 HA) lg2 _ _ _ _ _ _ _ _ _, hfr.blk (ps13.below HA) (fun e => nzg2 e), hfr.blk (pr13.below HA) (fun e => neg2 e), (pg213.below HA).set9 _ _ _ _ _ _ _ _ _, hrt, ?_, ?_, ?_, ?_⟩
       · rintro (h | h | h)
         · exact ntg1 h
         · exact nug1 h
         · have := pr13.lt; omega
       · rintro (h | h | h)
         · exact ntg2 h
         · exact nug2 h
         · omega
       · rintro b (h | h | h)
         · have := hqt _ h; omega
         · have := hqu _ h; omega
         · omega
       · rintro b (h | h | h)
         · exact hwt _ h
         · exact hwu _ h
         · exact .inr (by omega)
    rw [Bool.not_eq_true] at c105_102_102
    simp only [P.step, c105_102_102, Bool.false_eq_true, if_false] at hXe
    rw [c105_102_102] at m105_102_102
    clear c105_102_102
    have qx := pg210.open9
    obtain ⟨y0, y1⟩ := ps10.duo
    go_upto_region 7 with (first
     | (go_at_call 64; refine (HWD.out _ h10).mono ?_; rintro ex w11 ⟨rfl, hb11⟩; have h11 := h10.below hb11; have hV11 := below_on hV10 hb11; have ps11 := ps10.below hb11; have pr11 := pr10.below hb11; have pg211 := pg210.below hb11; have hint11 := hint10.below hb11; replace hqt : ∀ b, Rt b → b < w11.heap.size := fun b h => Nat.lt_of_lt_of_le (hqt b h) hb11.size; clear h10 hV10 ps10 pr10 y0 y1 pg210 qx hint10; obtain ⟨y0, y1⟩ := ps11.duo; have qx := pg211.open9))
    obtain ⟨⟨p0, p1, p2, p3, p4, p5, p6, p7, p8⟩, z0, z1, z2, z3, z4, z5, z6, z7, z8⟩ := pr11.open9
    go_wp2_with fail
    refine bodyPost_ret (results_rl rfl _ _ _ _ _ _ _ _ _ _ _ _ rfl (pr11.set9 _ _ _ _ _ _ _ _ _)) rfl ?_
    rw [hXe]
    exact dans_ok (below_set9 hV11 hl1 _ _ _ _ _ _ _ _ _) (hint11.far (fr9 _ _ _ _ _ _ _ _ _ _ _) ntg1) hwt (fun b h => Nat.lt_of_lt_of_le (hqt b h) (fr9 _ _ _ _ _ _ _ _ _ _ _).size) ha1'
end
end
section
open Go.RowKit
attribute [local go_sem] Oper.semAt_some
section
variable {R0 : Nat → Prop} {A : Option Addr} {c e : Nat} {ws : List Wd}
set_option maxRecDepth 100000 in
set_option maxHeartbeats 6400000 in
theorem impl_d (f : Nat) (hor : DRule R0 A c ws e f .ored 104) (him : DRule R0 A c ws e f .impl 63) : DRule R0 A c ws e (f + 1) .impl 63 := by
 intro w a z hz h ha hX
 subst hz
 rw [P.G_succ] at hX ⊢
 obtain ⟨X, hXe⟩ : ∃ X, P.step e (P.G e f) .impl (ws.drop a) = X := ⟨_, rfl⟩
 rw [hXe] at hX ⊢
 unfold xv
 obtain ⟨w0, g0, g1, hW, hg0, hg1, ps0, pr0, hV0⟩ := enter_d w A ws.length c e
 have h0 := h.below hV0
 have hn := h.2.1
 have hz0 := h.2.2
 have ha1 : a ≤ 1048577 := by omega
 have hl1 : w.heap.size ≤ g1 := by omega
 have hl0 : w.heap.size ≤ g0 := by omega
 have wa1 : IntKind.i64.wrap ((a : Int) + 1) = (a : Int) + 1 := wrap_nat (by omega) (by omega)
 have HW := Lib.hid hW
 have HG0 := Lib.hid hg0
 have HG1 := Lib.hid hg1
 clear h hW hg0 hg1
 have HOR := Lib.hid hor
 have HIM := Lib.hid him
 clear hor him
 have hXe : (P.G e f .ored (ws.drop a)).bind (fun t r => if P.isW ⟨#[105, 109, 112, 108, 105, 101, 115]⟩ r then (P.G e f .impl r.tail).bind fun u r' => .ok (P.nd 19 [t, u]) r' else .ok t r) = X := hXe
 cases hY : P.G e f .ored (ws.drop a) with
 | out => rw [hY] at hXe; exact absurd hXe.symm hX
 | bad cd p =>
  rw [hY] at hXe
  have hXe : P.Rd.bad cd p = X := hXe
  subst hXe
  have HY := Lib.hid hY
  clear hX hY
  go_enter Tryz.func63, Tryz.ntmps63
  go_upto_region 1 with (fail)
  rw [← HW.out, ← HG1.out, ← HG0.out]
  obtain ⟨y0, y1⟩ := ps0.duo
  go_upto_region 2 with (go_at_call 104; refine (HOR.out.bad h0 ha (by omega) HY.out).mono ?_; rintro ex w1 ⟨hcd, ⟨z3, rfl⟩, hb1⟩)
  have cd0 : ((cd : Int) == 0) = false := by simp; omega
  have cd1 : ((cd : Int) != 0) = true := by simp; omega
  have h1 := h0.below hb1
  have hV1 := below_on hV0 hb1
  have ps1 := ps0.below hb1
  have pr1 := pr0.below hb1
  clear h0 hV0 ps0 pr0 y0 y1
  obtain ⟨y0, y1⟩ := ps1.duo
  obtain ⟨w2, hw2, pg22, hb2⟩ := made_blk w1 #[.int .i64 0, .string ⟨#[]⟩, .slice none 0 0, .bool false, .slice none 0 0, .slice none 0 0, .int .i64 z3, .int .i64 (cd : Nat), .int .i64 (p : Nat)] 56
  obtain ⟨g2, hg2⟩ : ∃ x, x = w1.heap.size := ⟨_, rfl⟩
  rw [← hw2, ← hg2]
  rw [← hg2] at pg22
  have lg2 : w.heap.size ≤ g2 := by have := hV1.size; omega
  have neg2 : g1 ≠ g2 := by have := pr1.lt; omega
  have nzg2 : g0 ≠ g2 := by have := ps1.lt; omega
  clear hw2 hg2
  have h2 := h1.below hb2
  have hV2 := below_on hV1 hb2
  have ps2 := ps1.below hb2
  have pr2 := pr1.below hb2
  clear h1 hV1 ps1 pr1 y0 y1
  obtain ⟨y0, y1⟩ := ps2.duo
  have qx := pg22.open9
  obtain ⟨⟨p0, p1, p2, p3, p4, p5, p6, p7, p8⟩, z0, z1, z2, z3, z4, z5, z6, z7, z8⟩ := pr2.open9
  go_wp2_with fail
  refine bodyPost_ret (results_rl rfl _ _ _ _ _ _ _ _ _ _ _ _ rfl (pr2.set9 _ _ _ _ _ _ _ _ _)) rfl ?_
  exact dans_bad (below_set9 hV2 hl1 _ _ _ _ _ _ _ _ _) hcd
 | ok t r =>
  rw [hY] at hXe
  have HY := Lib.hid hY
  clear hY
  go_enter Tryz.func63, Tryz.ntmps63
  go_upto_region 1 with (fail)
  rw [← HW.out, ← HG1.out, ← HG0.out]
  obtain ⟨y0, y1⟩ := ps0.duo
  go_upto_region 2 with (go_at_call 104; refine (HOR.out.ok h0 ha (by omega) HY.out).mono ?_; rintro ex w1 ⟨⟨B1, d1, B2, d2, B3, d3, a1, rfl, rfl, ha1, hin⟩, hb1⟩)
  obtain ⟨Rt, hRt⟩ : ∃ R : Nat → Prop, DR R0 w0.heap.size w1.heap.size = R := ⟨_, rfl⟩
  rw [hRt] at hin
  have hint1 := hin
  clear hin
  have ntg1 : ¬ Rt g1 := by
   rw [← hRt]
   rintro (h | ⟨h, _⟩)
   · have := hz0 _ h; omega
   · have := pr0.lt; omega
  have hqt : ∀ b, Rt b → b < w1.heap.size := by
   rw [← hRt]
   rintro b (h | ⟨_, h⟩)
   · have := hz0 _ h; have := hV0.size; have := hb1.size; omega
   · exact h
  have hwt : ∀ b, Rt b → R0 b ∨ w.heap.size ≤ b := by
   rw [← hRt]
   rintro b (h | ⟨h, _⟩)
   · exact .inl h
   · exact .inr (Nat.le_trans hV0.size h)
  clear hRt
  have h1 := h0.below hb1
  have hV1 := below_on hV0 hb1
  have ps1 := ps0.below hb1
  have pr1 := pr0.below hb1
  clear h0 hV0 ps0 pr0 y0 y1
  obtain ⟨y0, y1⟩ := ps1.duo
  obtain ⟨w2, hw2, pg22, hb2⟩ := made_blk w1 #[.int .i64 t.k, .string t.nm, .slice B1 t.ns.length d1, .bool t.ng, .slice B2 t.mg.length d2, .slice B3 t.ks.length d3, .int .i64 (a1 : Nat), .int .i64 0, .int .i64 0] 56
  obtain ⟨g2, hg2⟩ : ∃ x, x = w1.heap.size := ⟨_, rfl⟩
  rw [← hw2, ← hg2]
  rw [← hg2] at pg22
  have lg2 : w.heap.size ≤ g2 := by have := hV1.size; omega
  have neg2 : g1 ≠ g2 := by have := pr1.lt; omega
  have nzg2 : g0 ≠ g2 := by have := ps1.lt; omega
  have ntg2 : ¬ Rt g2 := fun h => by have := hqt _ h; omega
  have hint2 := hint1.below hb2
  replace hqt : ∀ b, Rt b → b < w2.heap.size := fun b h => Nat.lt_of_lt_of_le (hqt b h) hb2.size
  clear hw2 hg2
  have h2 := h1.below hb2
  have hV2 := below_on hV1 hb2
  have ps2 := ps1.below hb2
  have pr2 := pr1.below hb2
  clear h1 hV1 ps1 pr1 y0 y1
  obtain ⟨y0, y1⟩ := ps2.duo
  have hXe : (if P.isW ⟨#[105, 109, 112, 108, 105, 101, 115]⟩ (ws.drop a1) then (P.G e f .impl (ws.drop a1).tail).bind fun u r' => .ok (P.nd 19 [t, u]) r' else .ok t (ws.drop a1)) = X := hXe
  obtain ⟨X2, hX2⟩ : ∃ x, P.tx (ws.drop a1) = x := ⟨_, rfl⟩
  have HWD := Lib.hid (fun (w' : World) (h : Dx w' R0 A ws) => by have h := word_d (c := c) (e := e) h a1 (by omega) _ rfl; rw [hX2] at h; exact h)
  have wa3 : IntKind.i64.wrap ((a1 : Int) + 1) = (a1 : Int) + 1 := wrap_nat (by omega) (by omega)
  have m1 : (X2.toList == [105, 109, 112, 108, 105, 101, 115]) = P.isW ⟨#[105, 109, 112, 108, 105, 101, 115]⟩ (ws.drop a1) := by rw [← hX2]; exact tx_beq ⟨#[105, 109, 112, 108, 105, 101, 115]⟩ (by decide) _
  clear hX2
  by_cases c1 : P.isW ⟨#[105, 109, 112, 108, 105, 101, 115]⟩ (ws.drop a1) = true
  ·
   have hal := isW_lt c1
   rw [if_pos c1, tail_drop] at hXe
   rw [c1] at m1
   have m2 : (X2.toList != [105, 109, 112, 108, 105, 101, 115]) = false := by rw [bne, m1]; rfl
   clear c1
   cases hY : P.G e f .impl (ws.drop (a1 + 1)) with
   | out => rw [hY] at hXe; exact absurd hXe.symm hX
   | bad cd p =>
    rw [hY] at hXe
    have hXe : P.Rd.bad cd p = X := hXe
    subst hXe
    have HY := Lib.hid hY
    clear hX hY
    have qx := pg22.open9
    go_upto_region 4 with (first
     | (go_at_call 64; refine (HWD.out _ h2).mono ?_; rintro ex w3 ⟨rfl, hb3⟩; have h3 := h2.below hb3; have hV3 := below_on hV2 hb3; have ps3 := ps2.below hb3; have pr3 := pr2.below hb3; have pg23 := pg22.below hb3; have hint3 := hint2.below hb3; replace hqt : ∀ b, Rt b → b < w3.heap.size := fun b h => Nat.lt_of_lt_of_le (hqt b h) hb3.size; clear h2 hV2 ps2 pr2 y0 y1 pg22 qx hint2; obtain ⟨y0, y1⟩ := ps3.duo; have qx := pg23.open9))
    go_upto_region 5 with (go_at_call 63; refine (HIM.out.bad h3 hal (by omega) HY.out).mono ?_; rintro ex w4 ⟨hcd, ⟨z3, rfl⟩, hb4⟩)
    have cd0 : ((cd : Int) == 0) = false := by simp; omega
    have cd1 : ((cd : Int) != 0) = true := by simp; omega
    have h4 := h3.below hb4
    have hV4 := below_on hV3 hb4
    have ps4 := ps3.below hb4
    have pr4 := pr3.below hb4
    have pg24 := pg23.below hb4
    clear h3 hV3 ps3 pr3 y0 y1 pg23
    obtain ⟨y0, y1⟩ := ps4.duo
    obtain ⟨w5, hw5, pg35, hb5⟩ := made_blk w4 #[.int .i64 0, .string ⟨#[]⟩, .slice none 0 0, .bool false, .slice none 0 0, .slice none 0 0, .int .i64 z3, .int .i64 (cd : Nat), .int .i64 (p : Nat)] 56
    obtain ⟨g3, hg3⟩ : ∃ x, x = w4.heap.size := ⟨_, rfl⟩
    rw [← hw5, ← hg3]
    rw [← hg3] at pg35
    have lg3 : w.heap.size ≤ g3 := by have := hV4.size; omega
    have neg3 : g1 ≠ g3 := by have := pr4.lt; omega
    have nzg3 : g0 ≠ g3 := by have := ps4.lt; omega
    have neg2g3 : g2 ≠ g3 := by have := pg24.lt; omega
    clear hw5 hg3
    have h5 := h4.below hb5
    have hV5 := below_on hV4 hb5
    have ps5 := ps4.below hb5
    have pr5 := pr4.below hb5
    have pg25 := pg24.below hb5
    clear h4 hV4 ps4 pr4 y0 y1 pg24
    obtain ⟨y0, y1⟩ := ps5.duo
    clear qx
    have qx := pg35.open9
    obtain ⟨⟨p0, p1, p2, p3, p4, p5, p6, p7, p8⟩, z0, z1, z2, z3, z4, z5, z6, z7, z8⟩ := pr5.open9
    go_wp2_with fail
    refine bodyPost_ret (results_rl rfl _ _ _ _ _ _ _ _ _ _ _ _ rfl (pr5.set9 _ _ _ _ _ _ _ _ _)) rfl ?_
    exact dans_bad (below_set9 hV5 hl1 _ _ _ _ _ _ _ _ _) hcd
   | ok u r =>
    rw [hY] at hXe
    have hXe : P.Rd.ok (P.nd 19 [t, u]) r = X := hXe
    subst hXe
    have HY := Lib.hid hY
    clear hX hY
    have qx := pg22.open9
    go_upto_region 4 with (first
     | (go_at_call 64; refine (HWD.out _ h2).mono ?_; rintro ex w3 ⟨rfl, hb3⟩; have h3 := h2.below hb3; have hV3 := below_on hV2 hb3; have ps3 := ps2.below hb3; have pr3 := pr2.below hb3; have pg23 := pg22.below hb3; have hint3 := hint2.below hb3; replace hqt : ∀ b, Rt b → b < w3.heap.size := fun b h => Nat.lt_of_lt_of_le (hqt b h) hb3.size; clear h2 hV2 ps2 pr2 y0 y1 pg22 qx hint2; obtain ⟨y0, y1⟩ := ps3.duo; have qx := pg23.open9))
    go_upto_region 5 with (go_at_call 63; refine (HIM.out.ok h3 hal (by omega) HY.out).mono ?_; rintro ex w4 ⟨⟨A1, c1, A2, c2, A3, c3, a', rfl, rfl, ha', hin⟩, hb4⟩)
    obtain ⟨Ru, hRu⟩ : ∃ R : Nat → Prop, DR R0 w3.heap.size w4.heap.size = R := ⟨_, rfl⟩
    rw [hRu] at hin
    have hinu4 := hin
    clear hin
    have nug1 : ¬ Ru g1 := by
     rw [← hRu]
     rintro (h | ⟨h, _⟩)
     · have := hz0 _ h; omega
     · have := pr3.lt; omega
    have nug2 : ¬ Ru g2 := by
     rw [← hRu]
     rintro (h | ⟨h, _⟩)
     · have := hz0 _ h; omega
     · have := pg23.lt; omega
    have hqu : ∀ b, Ru b → b < w4.heap.size := by
     rw [← hRu]
     rintro b (h | ⟨_, h⟩)
     · have := hz0 _ h; have := hV3.size; have := hb4.size; omega
     · exact h
    have hwu : ∀ b, Ru b → R0 b ∨ w.heap.size ≤ b := by
     rw [← hRu]
     rintro b (h | ⟨h, _⟩)
     · exact .inl h
     · exact .inr (Nat.le_trans hV3.size h)
    clear hRu
    have hint4 := hint3.below hb4
    replace hqt : ∀ b, Rt b → b < w4.heap.size := fun b h => Nat.lt_of_lt_of_le (hqt b h) hb4.size
    have h4 := h3.below hb4
    have hV4 := below_on hV3 hb4
    have ps4 := ps3.below hb4
    have pr4 := pr3.below hb4
    have pg24 := pg23.below hb4
    clear h3 hV3 ps3 pr3 y0 y1 pg23
    obtain ⟨y0, y1⟩ := ps4.duo
    obtain ⟨w5, hw5, pg35, hb5⟩ := made_blk w4 #[.int .i64 u.k, .string u.nm, .slice A1 u.ns.length c1, .bool u.ng, .slice A2 u.mg.length c2, .slice A3 u.ks.length c3, .int .i64 (a' : Nat), .int .i64 0, .int .i64 0] 56
    obtain ⟨g3, hg3⟩ : ∃ x, x = w4.heap.size := ⟨_, rfl⟩
    rw [← hw5, ← hg3]
    rw [← hg3] at pg35
    have lg3 : w.heap.size ≤ g3 := by have := hV4.size; omega
    have neg3 : g1 ≠ g3 := by have := pr4.lt; omega
    have nzg3 : g0 ≠ g3 := by have := ps4.lt; omega
    have neg2g3 : g2 ≠ g3 := by have := pg24.lt; omega
    have nug3 : ¬ Ru g3 := fun h => by have := hqu _ h; omega
    have hinu5 := hinu4.below hb5
    replace hqu : ∀ b, Ru b → b < w5.heap.size := fun b h => Nat.lt_of_lt_of_le (hqu b h) hb5.size
    have ntg3 : ¬ Rt g3 := fun h => by have := hqt _ h; omega
    have hint5 := hint4.below hb5
    replace hqt : ∀ b, Rt b → b < w5.heap.size := fun b h => Nat.lt_of_lt_of_le (hqt b h) hb5.size
    clear hw5 hg3
    have h5 := h4.below hb5
    have hV5 := below_on hV4 hb5
    have ps5 := ps4.below hb5
    have pr5 := pr4.below hb5
    have pg25 := pg24.below hb5
    clear h4 hV4 ps4 pr4 y0 y1 pg24
    obtain ⟨y0, y1⟩ := ps5.duo
    clear qx
    have HA := below_alloc1 w5 (.cells #[.int .i64 t.k, .string t.nm, .slice B1 t.ns.length d1, .bool t.ng, .slice B2 t.mg.length d2, .slice B3 t.ks.length d3, .int .i64 u.k, .string u.nm, .slice A1 u.ns.length c1, .bool u.ng, .slice A2 u.mg.length c2, .slice A3 u.ks.length c3] 28)
    have qx := pg25.open9
    obtain ⟨⟨p0, p1, p2, p3, p4, p5, p6, p7, p8⟩, z0, z1, z2, z3, z4, z5, z6, z7, z8⟩ := pg35.open9
    have rv := (pr5.below HA).open9
    have sk := (pg35.below HA).open9
    go_wp2_with fail
    have hfr := fr9 (w5.alloc (.cells #[.int .i64 t.k, .string t.nm, .slice B1 t.ns.length d1, .bool t.ng, .slice B2 t.mg.length d2, .slice B3 t.ks.length d3, .int .i64 u.k, .string u.nm, .slice A1 u.ns.length c1, .bool u.ng, .slice A2 u.mg.length c2, .slice A3 u.ks.length c3] 28)) g1 (.int .i64 19) (.string ⟨#[]⟩) (.slice none 0 0) (.bool false) (.slice none 0 0) (.slice (some ⟨w5.heap.size, 0, none⟩) 2 2) (.int .i64 (a' : Nat)) (.int .i64 0) (.int .i64 0)
    have hsz := hfr.size
    have hsa : (w5.alloc (.cells #[.int .i64 t.k, .string t.nm, .slice B1 t.ns.length d1, .bool t.ng, .slice B2 t.mg.length d2, .slice B3 t.ks.length d3, .int .i64 u.k, .string u.nm, .slice A1 u.ns.length c1, .bool u.ng, .slice A2 u.mg.length c2, .slice A3 u.ks.length c3] 28)).heap.size = w5.heap.size + 1 := by simp
    have hl2 := pr5.lt
    have hvs := hV5.size
    have hrt := row_two (k := 19) hint5 hinu5 ntg1 nug1 hl2 hfr
    refine bodyPost_ret (results_rl rfl _ _ _ _ _ _ _ _ _ _ _ _ rfl ((pr5.below HA).set9 _ _ _ _ _ _ _ _ _)) rfl ?_
    refine dans_ok (t := P.nd 19 [t, u]) (below_set9 (below_on hV5 HA) hl1 _ _ _ _ _ _ _ _ _) hrt ?_ ?_ ha'
    · rintro b (h | h | h)
      · exact hwt _ h
      · exact hwu _ h
      · exact .inr (by omega)
    · rintro b (h | h | h)
      · have := hqt _ h; omega
      · have := hqu _ h; omega
      · omega
  ·
   rw [Bool.not_eq_true] at c1
   rw [c1, if_neg (by decide)] at hXe
   rw [c1] at m1
   have m2 : (X2.toList != [105, 109, 112, 108, 105, 101, 115]) = true := by rw [bne, m1]; rfl
   subst hXe
   clear c1 hX
   have qx := pg22.open9
   go_upto_region 3 with (first
    | (go_at_call 64; refine (HWD.out _ h2).mono ?_; rintro ex w3 ⟨rfl, hb3⟩; have h3 := h2.below hb3; have hV3 := below_on hV2 hb3; have ps3 := ps2.below hb3; have pr3 := pr2.below hb3; have pg23 := pg22.below hb3; have hint3 := hint2.below hb3; replace hqt : ∀ b, Rt b → b < w3.heap.size := fun b h => Nat.lt_of_lt_of_le (hqt b h) hb3.size; clear h2 hV2 ps2 pr2 y0 y1 pg22 qx hint2; obtain ⟨y0, y1⟩ := ps3.duo; have qx := pg23.open9))
   obtain ⟨⟨p0, p1, p2, p3, p4, p5, p6, p7, p8⟩, z0, z1, z2, z3, z4, z5, z6, z7, z8⟩ := pr3.open9
   go_wp2_with fail
   refine bodyPost_ret (results_rl rfl _ _ _ _ _ _ _ _ _ _ _ _ rfl (pr3.set9 _ _ _ _ _ _ _ _ _)) rfl ?_
   exact dans_ok (below_set9 hV3 hl1 _ _ _ _ _ _ _ _ _) (hint3.far (fr9 _ _ _ _ _ _ _ _ _ _ _) ntg1) hwt (fun b h => Nat.lt_of_lt_of_le (hqt b h) (fr9 _ _ _ _ _ _ _ _ _ _ _).size) ha1
end
end
end Go.Proofs.YthiadenmljbdaaaGreatDoor

/-
  A step of both stores: riddlelaw22.does: contract.
-/
import Derived.Test.YtmncamnlmpajbaaSBoth
import Derived.Deep.CutRange
import Derived.BigQuiet
namespace Go.Proofs.Ytmncamnlmpajbaa
open Go.RowKit Go.Maps Go.WideMaps

theorem Blk.eight {w : World} {b : Nat} {t : TypeId} {a0 a1 a2 a3 a4 a5 a6 a7 : Value} (h : Blk w b t #[a0, a1, a2, a3, a4, a5, a6, a7]) : w.cell? ⟨b, 0, none⟩ = some a0 ∧ w.cell? ⟨b, 1, none⟩ = some a1 ∧ w.cell? ⟨b, 2, none⟩ = some a2 ∧ w.cell? ⟨b, 3, none⟩ = some a3 ∧ w.cell? ⟨b, 4, none⟩ = some a4 ∧ w.cell? ⟨b, 5, none⟩ = some a5 ∧ w.cell? ⟨b, 6, none⟩ = some a6 ∧ w.cell? ⟨b, 7, none⟩ = some a7 :=
  ⟨h.cell _, h.cell _, h.cell _, h.cell _, h.cell _, h.cell _, h.cell _, h.cell _⟩
section
variable {w : World} {P M Q B : Nat} {v : Value} {Y : Nat → Prop} {L : Kl}
set_option maxRecDepth 100000 in
set_option maxHeartbeats 6400000 in
theorem does_put (h : Both w P M Q B v Y L) (hY : ∀ b, w.heap.size ≤ b → Y b) (kz : Int) (nm : ByteArray) (hnm : nm.size ≤ 1048576) (t : T) (hbt : t.bulk ≤ 1048576) (R0 : Nat → Prop) (hR0 : ∀ b, R0 b → b < w.heap.size ∧ b ≠ P ∧ b ≠ M)
    {A1 A2 A3 : Option Addr} {c1 c2 c3 : Nat} (ht : T.In w R0 t (tv t.k t.nm A1 t.ns.length c1 t.ng A2 t.mg.length c2 A3 t.ks.length c3)) (hc : pk kz 4 = 0 ∨ pk kz 4 = 1) :
    Calls Try.prog 10 #[.pointer (some ⟨P, 0, none⟩), .pointer (some ⟨Q, 0, none⟩), .agg #[.int .i64 kz, .string nm, .int .i64 t.k, .string t.nm, .slice A1 t.ns.length c1, .bool t.ng, .slice A2 t.mg.length c2, .slice A3 t.ks.length c3]] w fun e w' => e = .returned (.bool true) ∧ After w P M Q B v Y w' := by
  have hpk := fun (w : World) => pick_l w kz 4 (by decide)
  obtain ⟨z, hz⟩ : ∃ z, pk kz 4 = z := ⟨_, rfl⟩
  rw [hz] at hpk hc
  have HPK := Lib.hid hpk
  have HI := Lib.hid ht
  have H := Lib.hid h
  have hPB := h.2.2.1
  have hMB := h.2.2.2.1
  have hBw := h.2.2.2.2.2.2.1
  have hQP := h.2.2.2.2.1
  have hQM := h.2.2.2.2.2.1
  have hQB : Q < B := h.2.1.1
  have HY := Lib.hid hY
  have HR0 := Lib.hid hR0
  clear hpk hz ht h hY hR0
  have HL1 := Lib.hid (show t.nm.size ≤ 1048576 ∧ t.ns.length ≤ 1048576 from ⟨(T.len_le hbt).1, (T.len_le hbt).2.1⟩)
  obtain ⟨E, hE⟩ : ∃ E, putE nm t L = E := ⟨_, rfl⟩
  have HE := Lib.hid hE
  clear hE
  go_enter Try.func10, Try.ntmps10
  go_upto_region 1 with (fail)
  obtain ⟨W1, hW1, px, hb1⟩ := made_blk w #[.int .i64 kz, .string nm, .int .i64 t.k, .string t.nm, .slice A1 t.ns.length c1, .bool t.ng, .slice A2 t.mg.length c2, .slice A3 t.ks.length c3] 37
  obtain ⟨Bx, hBx⟩ : ∃ b, b = w.heap.size := ⟨_, rfl⟩
  have hgBx : w.heap.size ≤ Bx := by omega
  rw [← hW1, ← hBx]
  rw [← hBx] at px
  clear hW1 hBx

  obtain ⟨x0, _, _, _, _, _, _, _⟩ := px.eight
  go_upto_if 17 with (go_at_call 17; refine (HPK.out _).mono ?_; rintro e w2 ⟨rfl, rfl⟩)
  go_cut [17] from 18 (fun v17 wd => v17 = .bool true ∧ wd = w2)
  case first =>
    rcases hc with rfl | rfl
    all_goals
      go_wp2_with fail
      go_meet
      exact ⟨rfl, rfl⟩
  obtain ⟨rfl, rfl⟩ := hcut
  rename World => WA
  clear hc x0
  obtain ⟨_, _, x2, x3, x4, x5, x6, x7⟩ := px.eight
  have s1 := hb1.size
  have hxl := px.lt
  go_upto_region 5 with (go_at_call 25; refine (own_t 1048576 t _ R0 _ hbt (Nat.le_refl _) (HI.out.below hb1)).mono ?_; rintro e w3 ⟨c, rfl, hNew, hb3⟩; have HNEW := Lib.hid hNew; obtain ⟨F1, f1, F2, f2, F3, f3, rfl⟩ := hNew.form; clear hNew)
  obtain ⟨W4, hW4, pt, hb4⟩ := made_blk w3 #[.int .i64 t.k, .string t.nm, .slice F1 t.ns.length f1, .bool t.ng, .slice F2 t.mg.length f2, .slice F3 t.ks.length f3] 35
  obtain ⟨Bt, hBt⟩ : ∃ b, b = w3.heap.size := ⟨_, rfl⟩
  have hgBt : w3.heap.size ≤ Bt := by omega
  rw [← hW4, ← hBt]
  rw [← hBt] at pt
  clear hW4 hBt
  have s3 := hb3.size
  have s4 := hb4.size
  have hb14 := below_on hb1 (below_on hb3 hb4)
  have px4 := px.below (below_on hb3 hb4)
  have HIN4 := Lib.hid ((T.New.In t _ _ _ (fun b => WA.heap.size ≤ b ∧ b < w3.heap.size) HNEW.out (fun b h1 h2 => ⟨h1, h2⟩)).below hb4)
  have HS4 : Hid (StoreAt W4 P M (fun b => Mx w B v Y b ∨ W4.heap.size ≤ b) L) := Lib.hid (H.out.1.turn (x := fun _ => False) (to_fr hb14) (fun h => h) (fun h => h) (fun b _ hR => ⟨.inl hR, fun h => h⟩) (fun e => by
    rcases e with e | e
    · have := e.1; omega
    · omega) (fun e => by
    rcases e with e | e
    · have := e.1; omega
    · omega))
  have HI4 := Lib.hid (HI.out.below hb14)
  clear x2 x3 x4 x5 x6 x7
  obtain ⟨_, x1, _⟩ := px4.eight
  obtain ⟨y0, y1, y2, y3, y4, y5⟩ := pt.six
  go_upto_region 6 with (go_at_call 20; refine (put_s HS4.out nm hnm t _ _ hbt HIN4.out (fun b hb => .inr hb)).mono ?_; rw [HE.out]; rintro e w5 ⟨rfl, hS5, hT5⟩)
  have s5 := hT5.size
  have hxB : Bx ≠ P ∧ Bx ≠ M := by omega
  have htB : Bt ≠ P ∧ Bt ≠ M := by omega
  have px5 := hT5.fr.blk px4 (fun e => e.elim hxB.1 hxB.2)
  have pt5 := hT5.fr.blk pt (fun e => e.elim htB.1 htB.2)
  have HIN5 := Lib.hid (Tur.In HIN4.out hT5 (by omega) (by omega))
  have HI5 := Lib.hid (Tur.In HI4.out hT5 (fun e => (HR0.out P e).2.1 rfl) (fun e => (HR0.out M e).2.2 rfl))
  have HS5 := Lib.hid hS5
  have HT5 := Lib.hid hT5
  clear x1 y0 y1 y2 y3 y4 y5 hS5 hT5 HIN4 HI4 HS4
  obtain ⟨_, _, x2, x3, x4, x5, x6, x7⟩ := px5.eight
  obtain ⟨y0, y1, y2, y3, y4, y5⟩ := pt5.six
  go_upto_region 7 with (go_at_call 22; refine (exact_t 1048576 t t _ _ _ _ _ hbt hbt (Nat.le_refl _) rfl HIN5.out HI5.out).mono ?_; rintro e w6 ⟨rfl, hb6⟩)
  have s6 := hb6.size
  have px6 := px5.below hb6
  have pt6 := pt5.below hb6
  have HNEW6 : Hid (T.New w6 t WA.heap.size w3.heap.size (tc t.k t.nm F1 t.ns.length f1 t.ng F2 t.mg.length f2 F3 t.ks.length f3)) := Lib.hid (T.New.keep t _ _ _ HNEW.out (fun b h1 h2 => (hb6.block b (by omega)).trans ((HT5.out.block b (by omega) (by omega) (by omega)).trans (hb4.block b h2))))
  clear x2 x3 x4 x5 x6 x7 y0 y1 y2 y3 y4 y5 px5 pt5 HIN5 HI5
  obtain ⟨y0, y1, y2, y3, y4, y5⟩ := pt6.six
  go_upto_region 8 with (go_at_call 26; refine (spoil_t 1048576 t _ _ _ _ hbt (Nat.le_refl _) HNEW6.out (by omega)).mono ?_; rintro e w7 ⟨rfl, hF7⟩)
  have s7 := hF7.size
  have px7 := hF7.blk px6 (by omega)
  have hF57 : Fr w5 w7 (fun b => WA.heap.size ≤ b ∧ b < w3.heap.size) := (to_fr hb6).step hF7 (fun k hk => .inl hk)
  clear y0 y1 y2 y3 y4 y5 pt6
  obtain ⟨_, x1, x2, x3, x4, x5, x6, x7⟩ := px7.eight
  have hF07 : Fr w w7 (fun b => b = P ∨ b = M) := ((to_fr hb14).step HT5.out.fr (fun k hk => .inl hk)).step hF57 (fun k hk => .inr (by omega))
  have HRS7 := Lib.hid (H.out.2.1.turn (Z' := Y) hF07 (fun e => e.elim hQP hQM) (fun b e hx => by
    have := H.out.row b e
    rcases hx with rfl | rfl
    · omega
    · omega) (fun b _ hb _ hy => ⟨hy, fun e => by
    rcases e with rfl | rfl
    · omega
    · omega⟩))
  have HI7 := Lib.hid (HI.out.turn (R' := R0) hF07 (fun b _ hb => ⟨hb, fun e => by
    rcases e with rfl | rfl
    · exact (HR0.out _ hb).2.1 rfl
    · exact (HR0.out _ hb).2.2 rfl⟩))
  have HF57 := Lib.hid hF57
  clear hF57 hF07 hF7
  go_wp2_with (go_at_call 27; refine (rput_s HRS7.out nm hnm t _ _ hbt HI7.out (fun b hb => HY.out b (by omega)) (by omega)).mono ?_; rw [HE.out]; rintro e w8 ⟨v', rfl, hR8, hF8, hv8⟩)
  go_ret
  exact ⟨by first | rfl | simp, after_put H.out hb14 HS5.out HT5.out (by omega) (by omega) HF57.out hR8 hF8 hv8 HY.out⟩
set_option maxRecDepth 100000 in
set_option maxHeartbeats 6400000 in
theorem does_get (h : Both w P M Q B v Y L) (hY : ∀ b, w.heap.size ≤ b → Y b) (kz : Int) (nm : ByteArray) (hnm : nm.size ≤ 1048576) (t : T) (_ : t.bulk ≤ 1048576) (R0 : Nat → Prop) (hR0 : ∀ b, R0 b → b < w.heap.size ∧ b ≠ P ∧ b ≠ M)
    {A1 A2 A3 : Option Addr} {c1 c2 c3 : Nat} (ht : T.In w R0 t (tv t.k t.nm A1 t.ns.length c1 t.ng A2 t.mg.length c2 A3 t.ks.length c3)) (hc : pk kz 4 = 2) :
    Calls Try.prog 10 #[.pointer (some ⟨P, 0, none⟩), .pointer (some ⟨Q, 0, none⟩), .agg #[.int .i64 kz, .string nm, .int .i64 t.k, .string t.nm, .slice A1 t.ns.length c1, .bool t.ng, .slice A2 t.mg.length c2, .slice A3 t.ks.length c3]] w fun e w' => e = .returned (.bool true) ∧ After w P M Q B v Y w' := by
  have hpk := fun (w : World) => pick_l w kz 4 (by decide)
  obtain ⟨z, hz⟩ : ∃ z, pk kz 4 = z := ⟨_, rfl⟩
  rw [hz] at hpk hc
  have HPK := Lib.hid hpk
  have HI := Lib.hid ht
  have H := Lib.hid h
  have hPB := h.2.2.1
  have hMB := h.2.2.2.1
  have hBw := h.2.2.2.2.2.2.1
  have hQP := h.2.2.2.2.1
  have hQM := h.2.2.2.2.2.1
  have hQB : Q < B := h.2.1.1
  have HY := Lib.hid hY
  have HR0 := Lib.hid hR0
  clear hpk hz ht h hY hR0
  subst hc
  obtain ⟨g, hg⟩ : ∃ g, gt nm L = g := ⟨_, rfl⟩
  obtain ⟨q, hq⟩ : ∃ q, (lget nm L).isSome = q := ⟨_, rfl⟩
  have hgb : g.bulk ≤ 1048576 := by rw [← hg]; exact H.out.1.gt_blk nm
  have HGET := Lib.hid (fun (w' : World) (hb : Below w.heap.size w w') => by have := get_s (H.out.1.turn (R' := Mx w B v Y) (x := fun _ => False) (to_fr hb) (fun h => h) (fun h => h) (fun b _ hb => ⟨hb, fun h => h⟩) (fun e => by have := e.1; omega) (fun e => by have := e.1; omega)) nm hnm; rw [hg, hq] at this; exact this)
  have HRGT := Lib.hid (fun (w' : World) (hb : Below w.heap.size w w') => by have := rget_s (H.out.2.1.below hb) nm; rw [hg, hq] at this; exact this)
  clear hg hq
  go_enter Try.func10, Try.ntmps10
  go_upto_region 1 with (fail)
  obtain ⟨W1, hW1, px, hb1⟩ := made_blk w #[.int .i64 kz, .string nm, .int .i64 t.k, .string t.nm, .slice A1 t.ns.length c1, .bool t.ng, .slice A2 t.mg.length c2, .slice A3 t.ks.length c3] 37
  obtain ⟨Bx, hBx⟩ : ∃ b, b = w.heap.size := ⟨_, rfl⟩
  have hgBx : w.heap.size ≤ Bx := by omega
  rw [← hW1, ← hBx]
  rw [← hBx] at px
  clear hW1 hBx

  obtain ⟨x0, _, _, _, _, _, _, _⟩ := px.eight
  have hxl := px.lt
  go_upto_region 10 with (go_at_call 17; refine (HPK.out _).mono ?_; rintro e w2 ⟨rfl, rfl⟩)
  rename World => WA
  clear x0
  obtain ⟨_, x1, _⟩ := px.eight
  have s1 := hb1.size
  go_upto_region 11 with (go_at_call 19; refine (HGET.out _ hb1).mono ?_; rintro e w3 ⟨D1, d1, D2, d2, D3, d3, rfl, hio, hb3⟩)
  obtain ⟨W4, hW4, po, hb4⟩ := made_blk w3 #[.int .i64 g.k, .string g.nm, .slice D1 g.ns.length d1, .bool g.ng, .slice D2 g.mg.length d2, .slice D3 g.ks.length d3] 35
  obtain ⟨Bo, hBo⟩ : ∃ b, b = w3.heap.size := ⟨_, rfl⟩
  have hgBo : w3.heap.size ≤ Bo := by omega
  rw [← hW4, ← hBo]
  rw [← hBo] at po
  clear hW4 hBo
  have s3 := hb3.size
  have s4 := hb4.size
  have hb14 := below_on hb1 (below_on hb3 hb4)
  have px4 := px.below (below_on hb3 hb4)
  have HIO := Lib.hid (hio.below hb4)
  clear x1 hio
  obtain ⟨_, x1, _⟩ := px4.eight
  go_upto_region 12 with (go_at_call 28; refine (HRGT.out _ hb14).mono ?_; rintro e w5 ⟨c, rfl, hNew, hb5⟩; have HNEW := Lib.hid hNew; obtain ⟨E1, e1, E2, e2, E3, e3, rfl⟩ := hNew.form; clear hNew)
  obtain ⟨W6, hW6, pu, hb6⟩ := made_blk w5 #[.int .i64 g.k, .string g.nm, .slice E1 g.ns.length e1, .bool g.ng, .slice E2 g.mg.length e2, .slice E3 g.ks.length e3] 35
  obtain ⟨Bu, hBu⟩ : ∃ b, b = w5.heap.size := ⟨_, rfl⟩
  have hgBu : w5.heap.size ≤ Bu := by omega
  rw [← hW6, ← hBu]
  rw [← hBu] at pu
  clear hW6 hBu
  have s5 := hb5.size
  have s6 := hb6.size
  have hb46 := below_on hb5 hb6
  have po6 := po.below hb46
  have HIO6 := Lib.hid (HIO.out.below hb46)
  have HIU6 := Lib.hid ((T.New.In g _ _ _ (fun _ => True) HNEW.out (fun _ _ _ => trivial)).below hb6)
  have hb16 := below_on hb14 hb46
  clear x1
  obtain ⟨y0, y1, y2, y3, y4, y5⟩ := po6.six
  obtain ⟨z0, z1, z2, z3, z4, z5⟩ := pu.six
  cases q
  all_goals
    go_wp2_with (go_at_call 22; refine (exact_t 1048576 g g _ _ _ _ _ hgb hgb (Nat.le_refl _) rfl HIO6.out HIU6.out).mono ?_; rintro e w7 ⟨rfl, hb7⟩)
    go_ret
    exact ⟨rfl, v, L, H.out.below (below_on hb16 hb7), to_fr (below_on hb16 hb7), fun b e => .inl e⟩
set_option maxRecDepth 100000 in
set_option maxHeartbeats 6400000 in
theorem does_drop (h : Both w P M Q B v Y L) (hY : ∀ b, w.heap.size ≤ b → Y b) (kz : Int) (nm : ByteArray) (hnm : nm.size ≤ 1048576) (t : T) (_ : t.bulk ≤ 1048576) (R0 : Nat → Prop) (hR0 : ∀ b, R0 b → b < w.heap.size ∧ b ≠ P ∧ b ≠ M)
    {A1 A2 A3 : Option Addr} {c1 c2 c3 : Nat} (ht : T.In w R0 t (tv t.k t.nm A1 t.ns.length c1 t.ng A2 t.mg.length c2 A3 t.ks.length c3)) (hc : pk kz 4 ≠ 0 ∧ pk kz 4 ≠ 1 ∧ pk kz 4 ≠ 2) :
    Calls Try.prog 10 #[.pointer (some ⟨P, 0, none⟩), .pointer (some ⟨Q, 0, none⟩), .agg #[.int .i64 kz, .string nm, .int .i64 t.k, .string t.nm, .slice A1 t.ns.length c1, .bool t.ng, .slice A2 t.mg.length c2, .slice A3 t.ks.length c3]] w fun e w' => e = .returned (.bool true) ∧ After w P M Q B v Y w' := by
  have hpk := fun (w : World) => pick_l w kz 4 (by decide)
  obtain ⟨z, hz⟩ : ∃ z, pk kz 4 = z := ⟨_, rfl⟩
  rw [hz] at hpk hc
  have HPK := Lib.hid hpk
  have HI := Lib.hid ht
  have H := Lib.hid h
  have hPB := h.2.2.1
  have hMB := h.2.2.2.1
  have hBw := h.2.2.2.2.2.2.1
  have hQP := h.2.2.2.2.1
  have hQM := h.2.2.2.2.2.1
  have hQB : Q < B := h.2.1.1
  have HY := Lib.hid hY
  have HR0 := Lib.hid hR0
  clear hpk hz ht h hY hR0
  have c0 : (z == 0) = false := by simpa using hc.1
  have c1' : (z == 1) = false := by simpa using hc.2.1
  have c2' : (z == 2) = false := by simpa using hc.2.2
  obtain ⟨E, hE⟩ : ∃ E, dropE nm L = E := ⟨_, rfl⟩
  have HSF := Lib.hid (fun (w' : World) (hF : Fr w w' (fun b => b = Q)) => by have := drop_s (H.out.1.turn (R' := Mx w B v Y) hF (fun e => hQP e.symm) (fun e => hQM e.symm) (fun b _ hb => ⟨hb, fun e => by have := hb.1; omega⟩) (fun e => by have := e.1; omega) (fun e => by have := e.1; omega)) nm hnm; rw [hE] at this; exact this)
  have hrf := fun (w' : World) (hF : Fr w w' (fun b => b = P ∨ b = M)) => rdrop_s (H.out.2.1.turn (Z' := Y) hF (fun e => e.elim hQP hQM) (fun b e hx => (by
    have := H.out.row b e
    rcases hx with rfl | rfl
    · omega
    · omega)) (fun b _ hb _ hy => ⟨hy, fun e => (by
    rcases e with rfl | rfl
    · omega
    · omega)⟩)) nm
  rw [hE] at hrf
  have HRF := Lib.hid hrf
  clear hrf
  clear hc hE
  go_enter Try.func10, Try.ntmps10
  go_upto_region 1 with (fail)
  obtain ⟨W1, hW1, px, hb1⟩ := made_blk w #[.int .i64 kz, .string nm, .int .i64 t.k, .string t.nm, .slice A1 t.ns.length c1, .bool t.ng, .slice A2 t.mg.length c2, .slice A3 t.ks.length c3] 37
  obtain ⟨Bx, hBx⟩ : ∃ b, b = w.heap.size := ⟨_, rfl⟩
  have hgBx : w.heap.size ≤ Bx := by omega
  rw [← hW1, ← hBx]
  rw [← hBx] at px
  clear hW1 hBx

  obtain ⟨x0, _, _, _, _, _, _, _⟩ := px.eight
  have hxl := px.lt
  go_upto_region 13 with (go_at_call 17; refine (HPK.out _).mono ?_; rintro e w2 ⟨rfl, rfl⟩)
  rename World => WA
  clear x0
  obtain ⟨_, x1, _⟩ := px.eight
  have hxP : Bx ≠ P := by omega
  have hxM : Bx ≠ M := by omega
  have hxQ : Bx ≠ Q := by omega
  have s1 := hb1.size
  go_region_held3 (fun w' => w'.cell? ⟨Bx, 1, none⟩ = some (.string nm)) (go_keep) (first
    | (go_at_call 23; refine (HSF.out _ (to_fr hb1.drew)).mono ?_; rintro e w3 ⟨rfl, hS3, hT3⟩; have mkA : True := trivial; have y1 : w3.cell? ⟨Bx, 1, none⟩ = some (.string nm) := (hT3.fr.blk (show Blk WA.drew Bx _ _ from px) (fun e => e.elim hxP hxM)).cell 1)
    | (go_at_call 29; refine (HRF.out _ (to_fr hb1.drew)).mono ?_; rintro e w3 ⟨v', rfl, hR3, hF3, hv3⟩; have mkB : True := trivial; have y1 : w3.cell? ⟨Bx, 1, none⟩ = some (.string nm) := (hF3.blk (show Blk WA.drew Bx _ _ from px) hxQ).cell 1)
    | (have _m := mkA; go_at_call 29; refine (HRF.out _ ((to_fr hb1.drew).step hT3.fr (fun k hk => .inl hk))).mono ?_; rintro e w5 ⟨v', rfl, hR5, hF5, hv5⟩; have z1 : w5.cell? ⟨Bx, 1, none⟩ = some (.string nm) := (hF5.blk (hT3.fr.blk (show Blk WA.drew Bx _ _ from px) (fun e => e.elim hxP hxM)) hxQ).cell 1)
    | (have _m := mkB; go_at_call 23; refine (HSF.out _ ((to_fr hb1.drew).step hF3 (fun k hk => .inl hk))).mono ?_; rintro e w5 ⟨rfl, hS5, hT5⟩; have z1 : w5.cell? ⟨Bx, 1, none⟩ = some (.string nm) := (hT5.fr.blk (hF3.blk (show Blk WA.drew Bx _ _ from px) hxQ) (fun e => e.elim hxP hxM)).cell 1))
  all_goals
    go_wp2_with fail
    go_ret
    refine ⟨by first | rfl | simp, ?_⟩
    have hsA : w.heap.size ≤ WA.drew.heap.size := s1
    have hrw := H.out.row
    first
      | (have _m := mkA
         have hs3 := hT3.size
         exact after_drop H.out (((to_fr hb1.drew).step hT3.fr (fun k hk => .inl (hk.elim .inl (fun e => .inr (.inl e))))).step hF5 (fun k hk => .inl (.inr (.inr hk)))) (hS3.turn (R' := Mx w B v Y) hF5 (fun e => hQP e.symm) (fun e => hQM e.symm) (fun b _ hb => ⟨hb, fun e => by have := hb.1; omega⟩) (fun e => by have := e.1; omega) (fun e => by have := e.1; omega)) hR5 (fun b e => (hv5 b e).imp (fun e => e) (fun e => by omega)))
      | (have _m := mkB
         have hs3 := hF3.size
         exact after_drop H.out (((to_fr hb1.drew).step hF3 (fun k hk => .inl (.inr (.inr hk)))).step hT5.fr (fun k hk => .inl (hk.elim .inl (fun e => .inr (.inl e))))) hS5 (hR3.turn (Z' := Y) hT5.fr (fun e => e.elim hQP hQM) (fun b e hx => (by
           have h1 := hv3 b e
           have h2 : B ≤ b := by
             rcases h1 with h1 | h1
             · exact (hrw b h1).1
             · omega
           rcases hx with rfl | rfl
           · omega
           · omega)) (fun b _ hb _ hy => ⟨hy, fun e => (by
           rcases e with rfl | rfl
           · omega
           · omega)⟩)) (fun b e => (hv3 b e).imp (fun e => e) (fun e => by omega)))
set_option maxRecDepth 100000 in
set_option maxHeartbeats 6400000 in
theorem does_l (h : Both w P M Q B v Y L) (hY : ∀ b, w.heap.size ≤ b → Y b) (kz : Int) (nm : ByteArray) (hnm : nm.size ≤ 1048576) (t : T) (hbt : t.bulk ≤ 1048576) (R0 : Nat → Prop) (hR0 : ∀ b, R0 b → b < w.heap.size ∧ b ≠ P ∧ b ≠ M)
    {A1 A2 A3 : Option Addr} {c1 c2 c3 : Nat} (ht : T.In w R0 t (tv t.k t.nm A1 t.ns.length c1 t.ng A2 t.mg.length c2 A3 t.ks.length c3)) :
    Calls Try.prog 10 #[.pointer (some ⟨P, 0, none⟩), .pointer (some ⟨Q, 0, none⟩), .agg #[.int .i64 kz, .string nm, .int .i64 t.k, .string t.nm, .slice A1 t.ns.length c1, .bool t.ng, .slice A2 t.mg.length c2, .slice A3 t.ks.length c3]] w fun e w' => e = .returned (.bool true) ∧ After w P M Q B v Y w' := by
  by_cases h0 : pk kz 4 = 0
  · exact does_put h hY kz nm hnm t hbt R0 hR0 ht (.inl h0)
  by_cases h1 : pk kz 4 = 1
  · exact does_put h hY kz nm hnm t hbt R0 hR0 ht (.inr h1)
  by_cases h2 : pk kz 4 = 2
  · exact does_get h hY kz nm hnm t hbt R0 hR0 ht h2
  · exact does_drop h hY kz nm hnm t hbt R0 hR0 ht ⟨h0, h1, h2⟩
end
end Go.Proofs.Ytmncamnlmpajbaa

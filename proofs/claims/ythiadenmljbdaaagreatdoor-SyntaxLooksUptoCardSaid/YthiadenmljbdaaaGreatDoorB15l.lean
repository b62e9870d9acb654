/-
  l: the parts QNot QBound PLex.
-/
import Derived.Test.YthiadenmljbdaaaGreatDoorB14l
import Derived.Deep.Cut
import Derived.Laws.AppendOwn
namespace Go.Proofs.YthiadenmljbdaaaGreatDoor
section
open Go.RowKit
attribute [local go_sem] Oper.semAt_some
section
variable {R0 : Nat → Prop} {A : Option Addr} {c e : Nat} {ws : List Wd}
def BoundR (R0 : Nat → Prop) (A : Option Addr) (c : Nat) (ws : List Wd) (e f : Nat) (k : Int) : Prop :=
 ∀ (w : World) (R a : Nat), Pa w R R0 A c ws e a → (∀ b, R0 b → b < w.heap.size) → P.bound e (P.G e f) k (ws.drop a) ≠ .out → Calls Tryz.prog 143 #[.pointer (some ⟨R, 0, none⟩), .int .i64 k] w (Ans w R R0 A c ws e (P.bound e (P.G e f) k (ws.drop a)))
theorem BoundR.ok {w : World} {R a f : Nat} {k : Int} {t : T} {r : List Wd} (h : BoundR R0 A c ws e f k) (hp : Pa w R R0 A c ws e a) (h0 : ∀ b, R0 b → b < w.heap.size) (hX : P.bound e (P.G e f) k (ws.drop a) = .ok t r) :
    Calls Tryz.prog 143 #[.pointer (some ⟨R, 0, none⟩), .int .i64 k] w fun ex w' => ∃ v a', ex = .returned (kv v) ∧ r = ws.drop a' ∧ Pa w' R R0 A c ws e a' ∧ T.Got w' R0 t w.heap.size w'.heap.size v ∧ Fr w w' (fun k => k = R) := by
  have := h w R a hp h0 (by rw [hX]; intro h; cases h)
  rw [hX] at this
  exact this
theorem BoundR.bad {w : World} {R a f : Nat} {k : Int} {cd p : Nat} (h : BoundR R0 A c ws e f k) (hp : Pa w R R0 A c ws e a) (h0 : ∀ b, R0 b → b < w.heap.size) (hX : P.bound e (P.G e f) k (ws.drop a) = .bad cd p) :
    Calls Tryz.prog 143 #[.pointer (some ⟨R, 0, none⟩), .int .i64 k] w fun ex w' => ex = .panicked [stopV cd p] ∧ Fr w w' (fun k => k = R) := by
  have := h w R a hp h0 (by rw [hX]; intro h; cases h)
  rw [hX] at this
  exact this
set_option maxRecDepth 100000 in
set_option maxHeartbeats 6400000 in
theorem notted_w (f : Nat) (hn : Rule R0 A c ws e f .notted 109) (hbd : ∀ k, BoundR R0 A c ws e f k) (hpr : Rule R0 A c ws e f .prim 144) : Rule R0 A c ws e (f + 1) .notted 109 := by
 intro w R a hp h0 hX
 rw [P.G_succ] at hX ⊢
 obtain ⟨X, hXe⟩ : ∃ X, P.step e (P.G e f) .notted (ws.drop a) = X := ⟨_, rfl⟩
 rw [hXe] at hX ⊢
 obtain ⟨W, hW, pb, hbW⟩ := made_blk w tz 28
 obtain ⟨b2, hb2⟩ : ∃ b, b = w.heap.size := ⟨_, rfl⟩
 have hRl : R < w.heap.size := hp.1.lt
 have hsz : W.heap.size = w.heap.size + 1 := by rw [hW]; simp
 have hp0 := hp.below hbW
 have hf0 : Fr w W (fun k => k = R) := Fr.of_below hbW
 have hne : ¬ b2 = R := by omega
 have pb0 : Blk W b2 28 tz := by rw [hb2]; exact pb
 have HW := Lib.hid hW
 have H0 := Lib.hid h0
 have HB2 := Lib.hid hb2
 have HSZ := Lib.hid hsz
 clear hp hbW pb hW h0 hsz hb2
 have HN := Lib.hid hn
 have HBD := Lib.hid hbd
 have HPR := Lib.hid hpr
 clear hn hbd hpr
 have hs0 : W.heap.size ≤ W.heap.size := Nat.le_refl _
 by_cases h1 : P.isW ⟨#[110, 111, 116]⟩ (ws.drop a) = true
 ·
  simp only [P.step, h1, if_true, tail_drop] at hXe
  have H1 := Lib.hid h1
  clear h1
  cases hY : P.G e f .notted (ws.drop (a + 1)) with
  | out => rw [hY] at hXe; exact absurd hXe.symm hX
  | bad cd p =>
   rw [hY] at hXe
   have hXe : P.Rd.bad cd p = X := hXe
   subst hXe
   have HY := Lib.hid hY
   clear hX hY
   go_enter Tryz.func109, Tryz.ntmps109
   go_upto_region 1 with (fail)
   rw [← HW.out, ← HB2.out]
   go_upto_region 2 with (go_at_call 68; refine (is_yes hp0 _ H1.out).mono ?_; rintro ex w1 ⟨rfl, hp1, hg1⟩)
   have hf1 := hf0.step hg1 (fun _ hk => .inl hk)
   have pb1 := hg1.blk pb0 hne
   have hs1 : W.heap.size ≤ w1.heap.size := by have := hg1.size; omega
   go_wp2_with (go_at_call 109; refine (HN.out.bad hp1 (hf1.lt H0.out) HY.out).mono ?_; rintro ex w9 ⟨rfl, hf9⟩)
   exact ⟨rfl, rfl, hf1.step hf9 (fun _ hk => .inl hk)⟩
  | ok u r =>
   rw [hY] at hXe
   have hXe : P.Rd.ok (P.nd 16 [u]) r = X := hXe
   subst hXe
   have HY := Lib.hid hY
   clear hX hY
   go_enter Tryz.func109, Tryz.ntmps109
   go_upto_region 1 with (fail)
   rw [← HW.out, ← HB2.out]
   go_upto_region 2 with (go_at_call 68; refine (is_yes hp0 _ H1.out).mono ?_; rintro ex w1 ⟨rfl, hp1, hg1⟩)
   have hf1 := hf0.step hg1 (fun _ hk => .inl hk)
   have pb1 := hg1.blk pb0 hne
   have hs1 : W.heap.size ≤ w1.heap.size := by have := hg1.size; omega
   go_wp2_with (go_at_call 109; refine (HN.out.ok hp1 (hf1.lt H0.out) HY.out).mono ?_; rintro ex w9 ⟨v, a9, rfl, rfl, hp9, hg9, hf9⟩; obtain ⟨F1, f1, F2, f2, F3, f3, rfl⟩ := hg9.form; have HPB9 := Lib.hid ((hf9.blk pb1 hne).below (below_alloc1 w9 (row1 (tc u.k u.nm F1 u.ns.length f1 u.ng F2 u.mg.length f2 F3 u.ks.length f3)))); have qx := HPB9.out.open6)
   refine bodyPost_ret (results_tr rfl _ _ _ _ _ _ _ _ _ rfl (HPB9.out.set6 _ _ _ _ _ _)) rfl ?_
   exact ans_one (b := b2) (lo := W.heap.size) (Nat.le_of_eq HB2.out.symm) (by have := HB2.out; have := HSZ.out; omega) hs1 (hf1.step hf9 (fun _ hk => .inl hk)) hp9 hg9 (NmE.nil _ _ _ _) (Lm.nil _ _) (fr6 _ _ _ _ _ _ _ _) H0.out hRl
 ·
  rw [Bool.not_eq_true] at h1
  have H1 := Lib.hid h1
  by_cases h2 : P.isW ⟨#[115, 111, 109, 101]⟩ (ws.drop a) = true
  ·
   simp only [P.step, h1, h2, if_true, Bool.false_eq_true, if_false, tail_drop] at hXe
   have H2 := Lib.hid h2
   clear h1 h2
   cases hY : P.bound e (P.G e f) 21 (ws.drop (a + 1)) with
   | out => rw [hY] at hXe; exact absurd hXe.symm hX
   | bad cd p =>
    rw [hY] at hXe
    have hXe : P.Rd.bad cd p = X := hXe
    subst hXe
    have HY := Lib.hid hY
    clear hX hY
    go_enter Tryz.func109, Tryz.ntmps109
    go_upto_region 1 with (fail)
    rw [← HW.out, ← HB2.out]
    go_upto_region 3 with (go_at_call 68; refine (is_no hp0 _ H1.out).mono ?_; rintro ex w1 ⟨rfl, hb1⟩)
    have hp1 := hp0.below hb1
    have hf1 := hf0.below hb1
    have pb1 := pb0.below hb1
    go_upto_region 4 with (go_at_call 68; refine (is_yes hp1 _ H2.out).mono ?_; rintro ex w2 ⟨rfl, hp2, hg2⟩)
    have hf2 := hf1.step hg2 (fun _ hk => .inl hk)
    have pb2 := hg2.blk pb1 hne
    have hs2 : W.heap.size ≤ w2.heap.size := by have := hb1.size; have := hg2.size; omega
    go_wp2_with (go_at_call 143; refine ((HBD.out 21).bad hp2 (hf2.lt H0.out) HY.out).mono ?_; rintro ex w9 ⟨rfl, hf9⟩)
    exact ⟨rfl, rfl, hf2.step hf9 (fun _ hk => .inl hk)⟩
   | ok u r =>
    rw [hY] at hXe
    have hXe : P.Rd.ok u r = X := hXe
    subst hXe
    have HY := Lib.hid hY
    clear hX hY
    go_enter Tryz.func109, Tryz.ntmps109
    go_upto_region 1 with (fail)
    rw [← HW.out, ← HB2.out]
    go_upto_region 3 with (go_at_call 68; refine (is_no hp0 _ H1.out).mono ?_; rintro ex w1 ⟨rfl, hb1⟩)
    have hp1 := hp0.below hb1
    have hf1 := hf0.below hb1
    have pb1 := pb0.below hb1
    go_upto_region 4 with (go_at_call 68; refine (is_yes hp1 _ H2.out).mono ?_; rintro ex w2 ⟨rfl, hp2, hg2⟩)
    have hf2 := hf1.step hg2 (fun _ hk => .inl hk)
    have pb2 := hg2.blk pb1 hne
    have hs2 : W.heap.size ≤ w2.heap.size := by have := hb1.size; have := hg2.size; omega
    go_wp2_with (go_at_call 143; refine ((HBD.out 21).ok hp2 (hf2.lt H0.out) HY.out).mono ?_; rintro ex w9 ⟨v, a9, rfl, rfl, hp9, hg9, hf9⟩; obtain ⟨F1, f1, F2, f2, F3, f3, rfl⟩ := hg9.form; have HPB9 := Lib.hid (hf9.blk pb2 hne); have qx := HPB9.out.open6)
    refine bodyPost_ret (results_tr rfl _ _ _ _ _ _ _ _ _ rfl (HPB9.out.set6 _ _ _ _ _ _)) rfl ?_
    exact ans_sub (b := b2) (Nat.le_of_eq HB2.out.symm) (by have := HB2.out; have := HSZ.out; have := hs2; omega) (hf2.step hf9 (fun _ hk => .inl hk)) hp9 hg9 (fr6 _ _ _ _ _ _ _ _) H0.out hRl
  ·
   rw [Bool.not_eq_true] at h2
   have H2 := Lib.hid h2
   by_cases h3 : P.isW ⟨#[97, 108, 108]⟩ (ws.drop a) = true
   ·
    simp only [P.step, h1, h2, h3, if_true, Bool.false_eq_true, if_false, tail_drop] at hXe
    have H3 := Lib.hid h3
    clear h1 h2 h3
    cases hY : P.bound e (P.G e f) 22 (ws.drop (a + 1)) with
    | out => rw [hY] at hXe; exact absurd hXe.symm hX
    | bad cd p =>
     rw [hY] at hXe
     have hXe : P.Rd.bad cd p = X := hXe
     subst hXe
     have HY := Lib.hid hY
     clear hX hY
     go_enter Tryz.func109, Tryz.ntmps109
     go_upto_region 1 with (fail)
     rw [← HW.out, ← HB2.out]
     go_upto_region 3 with (go_at_call 68; refine (is_no hp0 _ H1.out).mono ?_; rintro ex w1 ⟨rfl, hb1⟩)
     have hp1 := hp0.below hb1
     have hf1 := hf0.below hb1
     have pb1 := pb0.below hb1
     go_upto_region 5 with (go_at_call 68; refine (is_no hp1 _ H2.out).mono ?_; rintro ex w2 ⟨rfl, hb2⟩)
     have hp2 := hp1.below hb2
     have hf2 := hf1.below hb2
     have pb2 := pb1.below hb2
     go_upto_region 6 with (go_at_call 68; refine (is_yes hp2 _ H3.out).mono ?_; rintro ex w3 ⟨rfl, hp3, hg3⟩)
     have hf3 := hf2.step hg3 (fun _ hk => .inl hk)
     have pb3 := hg3.blk pb2 hne
     have hs3 : W.heap.size ≤ w3.heap.size := by have := hb1.size; have := hb2.size; have := hg3.size; omega
     go_wp2_with (go_at_call 143; refine ((HBD.out 22).bad hp3 (hf3.lt H0.out) HY.out).mono ?_; rintro ex w9 ⟨rfl, hf9⟩)
     exact ⟨rfl, rfl, hf3.step hf9 (fun _ hk => .inl hk)⟩
    | ok u r =>
     rw [hY] at hXe
     have hXe : P.Rd.ok u r = X := hXe
     subst hXe
     have HY := Lib.hid hY
     clear hX hY
     go_enter Tryz.func109, Tryz.ntmps109
     go_upto_region 1 with (fail)
     rw [← HW.out, ← HB2.out]
     go_upto_region 3 with (go_at_call 68; refine (is_no hp0 _ H1.out).mono ?_; rintro ex w1 ⟨rfl, hb1⟩)
     have hp1 := hp0.below hb1
     have hf1 := hf0.below hb1
     have pb1 := pb0.below hb1
     go_upto_region 5 with (go_at_call 68; refine (is_no hp1 _ H2.out).mono ?_; rintro ex w2 ⟨rfl, hb2⟩)
     have hp2 := hp1.below hb2
     have hf2 := hf1.below hb2
     have pb2 := pb1.below hb2
     go_upto_region 6 with (go_at_call 68; refine (is_yes hp2 _ H3.out).mono ?_; rintro ex w3 ⟨rfl, hp3, hg3⟩)
     have hf3 := hf2.step hg3 (fun _ hk => .inl hk)
     have pb3 := hg3.blk pb2 hne
     have hs3 : W.heap.size ≤ w3.heap.size := by have := hb1.size; have := hb2.size; have := hg3.size; omega
     go_wp2_with (go_at_call 143; refine ((HBD.out 22).ok hp3 (hf3.lt H0.out) HY.out).mono ?_; rintro ex w9 ⟨v, a9, rfl, rfl, hp9, hg9, hf9⟩; obtain ⟨F1, f1, F2, f2, F3, f3, rfl⟩ := hg9.form; have HPB9 := Lib.hid (hf9.blk pb3 hne); have qx := HPB9.out.open6)
     refine bodyPost_ret (results_tr rfl _ _ _ _ _ _ _ _ _ rfl (HPB9.out.set6 _ _ _ _ _ _)) rfl ?_
     exact ans_sub (b := b2) (Nat.le_of_eq HB2.out.symm) (by have := HB2.out; have := HSZ.out; have := hs3; omega) (hf3.step hf9 (fun _ hk => .inl hk)) hp9 hg9 (fr6 _ _ _ _ _ _ _ _) H0.out hRl
   ·
    rw [Bool.not_eq_true] at h3
    have H3 := Lib.hid h3
    simp only [P.step, h1, h2, h3, Bool.false_eq_true, if_false] at hXe
    clear h1 h2 h3
    cases hY : P.G e f .prim (ws.drop a) with
    | out => rw [hY] at hXe; exact absurd hXe.symm hX
    | bad cd p =>
     rw [hY] at hXe
     have hXe : P.Rd.bad cd p = X := hXe
     subst hXe
     have HY := Lib.hid hY
     clear hX hY
     go_enter Tryz.func109, Tryz.ntmps109
     go_upto_region 1 with (fail)
     rw [← HW.out, ← HB2.out]
     go_upto_region 3 with (go_at_call 68; refine (is_no hp0 _ H1.out).mono ?_; rintro ex w1 ⟨rfl, hb1⟩)
     have hp1 := hp0.below hb1
     have hf1 := hf0.below hb1
     have pb1 := pb0.below hb1
     go_upto_region 5 with (go_at_call 68; refine (is_no hp1 _ H2.out).mono ?_; rintro ex w2 ⟨rfl, hb2⟩)
     have hp2 := hp1.below hb2
     have hf2 := hf1.below hb2
     have pb2 := pb1.below hb2
     go_upto_region 7 with (go_at_call 68; refine (is_no hp2 _ H3.out).mono ?_; rintro ex w3 ⟨rfl, hb3⟩)
     have hp3 := hp2.below hb3
     have hf3 := hf2.below hb3
     have pb3 := pb2.below hb3
     have hs3 : W.heap.size ≤ w3.heap.size := by have := hb1.size; have := hb2.size; have := hb3.size; omega
     go_wp2_with (go_at_call 144; refine (HPR.out.bad hp3 (hf3.lt H0.out) HY.out).mono ?_; rintro ex w9 ⟨rfl, hf9⟩)
     exact ⟨rfl, rfl, hf3.step hf9 (fun _ hk => .inl hk)⟩
    | ok u r =>
     rw [hY] at hXe
     have hXe : P.Rd.ok u r = X := hXe
     subst hXe
     have HY := Lib.hid hY
     clear hX hY
     go_enter Tryz.func109, Tryz.ntmps109
     go_upto_region 1 with (fail)
     rw [← HW.out, ← HB2.out]
     go_upto_region 3 with (go_at_call 68; refine (is_no hp0 _ H1.out).mono ?_; rintro ex w1 ⟨rfl, hb1⟩)
     have hp1 := hp0.below hb1
     have hf1 := hf0.below hb1
     have pb1 := pb0.below hb1
     go_upto_region 5 with (go_at_call 68; refine (is_no hp1 _ H2.out).mono ?_; rintro ex w2 ⟨rfl, hb2⟩)
     have hp2 := hp1.below hb2
     have hf2 := hf1.below hb2
     have pb2 := pb1.below hb2
     go_upto_region 7 with (go_at_call 68; refine (is_no hp2 _ H3.out).mono ?_; rintro ex w3 ⟨rfl, hb3⟩)
     have hp3 := hp2.below hb3
     have hf3 := hf2.below hb3
     have pb3 := pb2.below hb3
     have hs3 : W.heap.size ≤ w3.heap.size := by have := hb1.size; have := hb2.size; have := hb3.size; omega
     go_wp2_with (go_at_call 144; refine (HPR.out.ok hp3 (hf3.lt H0.out) HY.out).mono ?_; rintro ex w9 ⟨v, a9, rfl, rfl, hp9, hg9, hf9⟩; obtain ⟨F1, f1, F2, f2, F3, f3, rfl⟩ := hg9.form; have HPB9 := Lib.hid (hf9.blk pb3 hne); have qx := HPB9.out.open6)
     refine bodyPost_ret (results_tr rfl _ _ _ _ _ _ _ _ _ rfl (HPB9.out.set6 _ _ _ _ _ _)) rfl ?_
     exact ans_sub (b := b2) (Nat.le_of_eq HB2.out.symm) (by have := HB2.out; have := HSZ.out; have := hs3; omega) (hf3.step hf9 (fun _ hk => .inl hk)) hp9 hg9 (fr6 _ _ _ _ _ _ _ _) H0.out hRl
end
end
section
open Go.RowKit
attribute [local go_sem] Oper.semAt_some
section
variable {R0 : Nat → Prop} {A : Option Addr} {c e : Nat} {ws : List Wd}
def DotOk (ws : List Wd) : Prop := ∀ i, i < ws.length → (ws.getD i wd0).1 = 2 → (ws.getD i wd0).2.1 ≠ ⟨#[46]⟩
theorem nms_at (ws : List Wd) : ∀ (k a : Nat), (∀ j, j < k → P.kd (ws.drop (a + j)) = 2) → P.kd (ws.drop (a + k)) ≠ 2 → P.nms (ws.drop a) = ((ws.drop a).take k).map (·.2.1) ∧ P.beh (ws.drop a) = ws.drop (a + k)
 | 0, a, _, h => by
  rw [Nat.add_zero] at h
  cases hl : ws.drop a with
  | nil => simp [P.nms, P.beh]
  | cons t r =>
   rw [hl] at h
   have ht : ¬ ((t.1 == 2) = true) := by simpa [P.kd] using h
   simp only [P.nms, P.beh, List.takeWhile_cons, List.dropWhile_cons, if_neg ht]
   simp
 | k + 1, a, h1, h2 => by
  have h0 := h1 0 (by omega)
  rw [Nat.add_zero] at h0
  obtain ⟨t, r, hl, ht⟩ := P.kd_cons h0 (by decide)
  have hr : ws.drop (a + 1) = r := by rw [← List.tail_drop, hl]; rfl
  obtain ⟨e1, e2⟩ := nms_at ws k (a + 1) (fun j hj => by rw [show a + 1 + j = a + (j + 1) by omega]; exact h1 (j + 1) (by omega)) (by rw [show a + 1 + k = a + (k + 1) by omega]; exact h2)
  have htt : (t.1 == 2) = true := by simp [ht]
  rw [hr] at e1 e2
  rw [hl]
  refine ⟨?_, ?_⟩
  · rw [P.nms, List.takeWhile_cons, if_pos htt, List.map_cons, List.take_succ_cons, List.map_cons, ← e1]
    rfl
  · rw [P.beh, List.dropWhile_cons, if_pos htt, show a + (k + 1) = a + 1 + k by omega, ← e2]
    rfl
theorem take_next (ws : List Wd) (a k : Nat) (h : a + k < ws.length) : ((ws.drop a).take (k + 1)).map (fun t : Wd => t.2.1) = ((ws.drop a).take k).map (fun t : Wd => t.2.1) ++ [(ws.getD (a + k) wd0).2.1] := by
 have hk : k < (ws.drop a).length := by rw [List.length_drop]; omega
 rw [List.take_succ_eq_append_getElem hk, List.map_append, List.getElem_drop]
 simp [List.getD, h]
theorem own_f {w : World} {base n : Nat} {v : Value} {xs : List Value} (h : w.ownsRow base 9 1 v n xs) : ∃ A c, v = .slice A n c := by
 obtain ⟨_, ⟨e, h0⟩ | ⟨g, cap, cur, e, _⟩⟩ := h
 · exact ⟨none, 0, by rw [e, h0]⟩
 · exact ⟨_, cap, e⟩
theorem own_b {w : World} {base n : Nat} {v : Value} {xs : List Value} (h : w.ownsRow base 9 1 v n xs) : ∀ b, v.ownBlock = some b → base ≤ b ∧ b < w.heap.size := by
 obtain ⟨_, ⟨e, h0⟩ | ⟨g, cap, cur, e, h1, h2, _⟩⟩ := h
 · intro b hb
   rw [e] at hb
   cases hb
 · intro b hb
   rw [e] at hb
   injection hb with hb
   subst hb
   exact ⟨h1, (Array.getElem?_eq_some_iff.1 h2).1⟩
theorem nm_own {w : World} {lo : Nat} {A : Option Addr} {c n : Nat} {ns : List ByteArray} (hn : n = ns.length) (h : w.ownsRow lo 9 1 (.slice A n c) n (ns.map Value.string)) : NmR w lo w.heap.size A c ns := by
 subst hn
 obtain ⟨_, ⟨e, h0⟩ | ⟨g, cap, cur, e, hb, hg, hc, hm, hs, ht⟩⟩ := h
 · injection e with e1 e2 e3
   subst e1; subst e3
   have : ns = [] := List.eq_nil_of_length_eq_zero h0
   subst this
   exact NmE.nil _ _ _ _
 ·
  injection e with e1 e2 e3
  subst e1; subst e3
  have hlt := (Array.getElem?_eq_some_iff.1 hg).1
  refine ⟨⟨hc, fun _ => ⟨g, 0, rfl, ⟨hb, hlt, id⟩, fun i hi => ?_⟩⟩, hm, .inr ⟨g, cur, rfl, ⟨hb, hlt, id⟩, hg, by omega⟩⟩
  rw [Nat.zero_add, cell_of_row _ _ _ _ _ _ hg]
  have e2 : (cur.toList.take (ns.length * 1))[i]? = some (.string (ns.getD i ⟨#[]⟩)) := by rw [ht]; simp [List.getD, hi]
  rw [List.getElem?_take_of_lt (by omega)] at e2
  simpa using e2
theorem own_at {w w' : World} {base n : Nat} {v : Value} {xs : List Value} (h : w.ownsRow base 9 1 v n xs) (hg : ∀ g, base ≤ g → g < w.heap.size → w'.heap[g]? = w.heap[g]?) : w'.ownsRow base 9 1 v n xs := by
 refine ⟨h.1, ?_⟩
 rcases h.2 with h | ⟨g, cap, cur, e, h1, h2, h3⟩
 · exact .inl h
 · exact .inr ⟨g, cap, cur, e, h1, (hg g h1 (Array.getElem?_eq_some_iff.1 h2).1).trans h2, h3⟩
theorem info_st : (Tryz.prog.info? 9).map (fun i => (i.zero, i.size, i.bytes)) = some (some (.string ⟨#[]⟩), 1, 16) := by kernel_rfl
set_option maxRecDepth 100000 in
set_option maxHeartbeats 6400000 in
theorem bound_w (hdot : DotOk ws) (f : Nat) (hfm : Rule R0 A c ws e f .form 38) (kk : Int) : BoundR R0 A c ws e f kk := by
 intro w R a hp h0 hX
 obtain ⟨X, hXe⟩ : ∃ X, P.bound e (P.G e f) kk (ws.drop a) = X := ⟨_, rfl⟩
 rw [hXe] at hX ⊢
 obtain ⟨W, hW, pb, hbW⟩ := made_blk w tz 28
 obtain ⟨b2, hb2⟩ : ∃ b, b = w.heap.size := ⟨_, rfl⟩
 have hRl : R < w.heap.size := hp.1.lt
 have hsz : W.heap.size = w.heap.size + 1 := by rw [hW]; simp
 have hp0 := hp.below hbW
 have hf0 : Fr w W (fun k => k = R) := Fr.of_below hbW
 have hne : ¬ b2 = R := by omega
 have pb0 : Blk W b2 28 tz := by rw [hb2]; exact pb
 have HW := Lib.hid hW
 have H0 := Lib.hid h0
 have HB2 := Lib.hid hb2
 have HSZ := Lib.hid hsz
 clear hp hbW pb hW h0 hsz hb2
 obtain ⟨i0, hi, iz0, iz1, iz2⟩ := info_parts info_st
 have hfd := run_field1
 have HFM := Lib.hid hfm
 have HD := Lib.hid hdot
 obtain ⟨n, hn⟩ : ∃ n, ws.length = n + a := ⟨ws.length - a, by have := hp0.2.2.2.1; omega⟩
 have hnb : n + a ≤ 1048576 := by rw [← hn]; exact hp0.2.2.2.2
 have HN := Lib.hid hn
 have HXe := Lib.hid hXe
 have HX := Lib.hid hX
 clear hfm hdot hn hXe hX
 go_enter Tryz.func143, Tryz.ntmps143
 go_upto_region 1 with (fail)
 rw [← HW.out, ← HB2.out]
 go_wp2_with fail
 go_loopg [5] (n + 1) (fun gk v5 wr => ∃ (k : Nat), gk + k = n + 1 ∧ k ≤ n ∧ wr.ownsRow W.heap.size 9 1 v5 k ((((ws.drop a).take k).map (fun t : Wd => t.2.1)).map Value.string) ∧ Pa wr R R0 A c ws e (a + k) ∧ (∀ j, j < k → P.kd (ws.drop (a + j)) = 2) ∧ Fr w wr (fun q => q = R) ∧ Blk wr b2 28 tz ∧ W.heap.size ≤ wr.heap.size)
 case atStart => exact ⟨0, by omega, Nat.zero_le _, World.ownsRow_nil _ _ _ _, hp0, fun j hj => by omega, hf0, pb0, Nat.le_refl _⟩
 case round =>
  obtain ⟨k, hgk, hkn, hown, hp1, hkd, hf1, pb1, hs1⟩ := hrel
  obtain ⟨B5, c5, rfl⟩ := own_f hown
  have HOWN := Lib.hid hown
  have HKD := Lib.hid hkd
  have HGK := Lib.hid hgk
  have h01 := hf1.lt H0.out
  clear hown hkd hgk
  -- the rest: one word more, behind which the loop goes on
  by_cases hex : 1 ≤ k ∧ P.isW ⟨#[46]⟩ (ws.drop (a + k)) = true
  ·
   -- the loop ends
   have e0 : ((k : Int) == 0) = false := by simp; omega
   have hlt : a + k < ws.length := by
    have := hex.2
    rw [P.isW_drop] at this
    simp at this
    exact this.1
   have hkd2 : P.kd (ws.drop (a + k)) ≠ 2 := fun h => by
    have h2 := hex.2
    rw [P.isW_drop] at h2
    simp at h2
    rw [P.kd_drop, if_pos hlt] at h
    exact HD.out _ hlt h (by simpa [List.getD, hlt] using h2.2)
   obtain ⟨en, eb⟩ := nms_at ws k a HKD.out hkd2
   have hne0 : ((((ws.drop a).take k).map (fun t : Wd => t.2.1)).isEmpty) = false := by
    rw [List.isEmpty_eq_false_iff]
    intro h
    have := congrArg List.length h
    simp at this
    omega
   have hXe := HXe.out
   have hX := HX.out
   have en' : P.nms (ws.drop a) = ((ws.drop a).take k).map (fun t : Wd => t.2.1) := en
   have hbt : P.bound e (P.G e f) kk (ws.drop a) = (P.G e f .form (ws.drop (a + k + 1))).bind fun u r => .ok (.node kk ⟨#[]⟩ (((ws.drop a).take k).map (fun t : Wd => t.2.1)) false [] [u]) r := by
    unfold P.bound
    rw [en', eb, hex.2, hne0, tail_drop]
    rfl
   rw [hbt] at hXe
   have hpk := peek_r hp1 ⟨#[46]⟩ 0 (by omega) 0 rfl
   rw [Nat.add_zero, hex.2] at hpk
   have HPK := Lib.hid hpk
   have HEX := Lib.hid hex.2
   obtain ⟨ns, hns⟩ : ∃ ns, ((ws.drop a).take k).map (fun t : Wd => t.2.1) = ns := ⟨_, rfl⟩
   have hnl : k = ns.length := by
    rw [← hns]
    simp
    have := HN.out
    omega
   rw [hns] at hXe
   have hown := HOWN.out
   rw [hns] at hown
   have hnm := nm_own hnl hown
   clear hns hown HOWN hpk hex hkd2 en eb en' hne0 hbt HKD HGK
   subst hnl
   have HNM := Lib.hid hnm
   clear hnm
   cases hY : P.G e f .form (ws.drop (a + ns.length + 1)) with
   | out => rw [hY] at hXe; exact absurd hXe.symm hX
   | bad cd p =>
    rw [hY] at hXe
    have hXe : P.Rd.bad cd p = X := hXe
    subst hXe
    have HY := Lib.hid hY
    clear hX hY
    go_upto_region 6 with (go_at_call 110; refine HPK.out.mono ?_; rintro ex w2 ⟨rfl, hb2⟩)
    have hp2 := hp1.below hb2
    have hf2 := hf1.below hb2
    have pb2 := pb1.below hb2
    go_upto_region 7 with (go_at_call 163; refine (must_yes hp2 _ HEX.out).mono ?_; rintro ex w3 ⟨rfl, hp3, hg3⟩)
    have hf3 := hf2.step hg3 (fun _ hk => .inl hk)
    go_wp2_with (go_at_call 38; refine (HFM.out.bad hp3 (hf3.lt H0.out) HY.out).mono ?_; rintro ex w9 ⟨rfl, hf9⟩)
    exact ⟨rfl, rfl, hf3.step hf9 (fun _ hk => .inl hk)⟩
   | ok u r =>
    rw [hY] at hXe
    have hXe : P.Rd.ok (.node kk ⟨#[]⟩ ns false [] [u]) r = X := hXe
    subst hXe
    have HY := Lib.hid hY
    clear hX hY
    go_upto_region 6 with (go_at_call 110; refine HPK.out.mono ?_; rintro ex w2 ⟨rfl, hb2⟩)
    have hp2 := hp1.below hb2
    have hf2 := hf1.below hb2
    have pb2 := pb1.below hb2
    go_upto_region 7 with (go_at_call 163; refine (must_yes hp2 _ HEX.out).mono ?_; rintro ex w3 ⟨rfl, hp3, hg3⟩)
    have hf3 := hf2.step hg3 (fun _ hk => .inl hk)
    have pb3 := hg3.blk pb2 hne
    have hsz3 : wr.heap.size ≤ w3.heap.size := by have := hb2.size; have := hg3.size; omega
    have hnm3 := HNM.out.up (lo' := W.heap.size) (hi' := w3.heap.size) (w' := w3) (E' := N0) (Nat.le_refl _) hsz3 (fun b h1 h2 _ => (hg3.block b (by have := hb2.size; omega) (by have := HSZ.out; show ¬ b = R; omega)).trans (hb2.block b h2)) (fun _ _ _ h => h)
    go_wp2_with (go_at_call 38; refine (HFM.out.ok hp3 (hf3.lt H0.out) HY.out).mono ?_; rintro ex w9 ⟨v, a9, rfl, rfl, hp9, hg9, hf9⟩; obtain ⟨F1, f1, F2, f2, F3, f3, rfl⟩ := hg9.form; have HPB9 := Lib.hid ((hf9.blk pb3 hne).below (below_alloc1 w9 (row1 (tc u.k u.nm F1 u.ns.length f1 u.ng F2 u.mg.length f2 F3 u.ks.length f3)))); have qx := HPB9.out.open6)
    refine bodyPost_ret (results_tr rfl _ _ _ _ _ _ _ _ _ rfl (HPB9.out.set6 _ _ _ _ _ _)) rfl ?_
    exact ans_one (b := b2) (lo := W.heap.size) (q := w3.heap.size) (Nat.le_of_eq HB2.out.symm) (by have := HB2.out; have := HSZ.out; omega) (by omega) (hf3.step hf9 (fun _ hk => .inl hk)) hp9 hg9 (hnm3.up (Nat.le_refl _) (Nat.le_refl _) (fun b h1 h2 _ => hf9.block b h2 (by have := HSZ.out; show ¬ b = R; omega)) (fun _ _ _ h => h)) (Lm.nil _ _) (fr6 _ _ _ _ _ _ _ _) H0.out hRl
  ·
   by_cases hk0 : k = 0
   ·
    have e0 : ((k : Int) == 0) = true := by simp [hk0]
    have HK0 := Lib.hid hk0
    clear hk0 hex
    by_cases hk2 : P.kd (ws.drop (a + k)) = 2
    ·
     have hlt : a + k < ws.length := by
      obtain ⟨t, r, hl, _⟩ := P.kd_cons hk2 (by decide)
      have := congrArg List.length hl
      simp at this
      omega
     have hkn2 : k < n := by have := HN.out; omega
     have hkr := kind_r hp1
     rw [hk2] at hkr
     have HKR := Lib.hid hkr
     have HK2 := Lib.hid hk2
     clear hk2 hkr
     obtain ⟨⟨t1, t2, t3, t4⟩, ht⟩ : ∃ t, ws.getD (a + k) wd0 = t := ⟨_, rfl⟩
     have hsn := take_next ws a k hlt
     rw [ht] at hsn
     have hnx := fun (w' : World) (h : Pa w' R R0 A c ws e (a + k)) => next_r h hlt
     rw [ht] at hnx
     have HNX := Lib.hid hnx
     have HSN := Lib.hid hsn
     clear hnx hsn ht
     go_wp2_with (first
      | (go_at_call 161; refine HKR.out.mono ?_; rintro ex w3 ⟨rfl, hb3⟩; have hp3 := hp1.below hb3; have hb13 := hb3; have h1s := hb13.size)
      | (go_at_call 162; refine (HNX.out _ hp3).mono ?_; rintro ex w4 ⟨B, d, rfl, _, hp4, hg4⟩; have hb5 := below_alloc1 w4 (.cells #[.string t2] 9); have h4s := hg4.size; have HX1 := Lib.hid (Blk.new w4 9 #[.string t2]); have HOA : Hid ((w4.alloc (.cells #[.string t2] 9)).ownsRow W.heap.size 9 1 (.slice B5 k c5) k ((((ws.drop a).take k).map (fun t : Wd => t.2.1)).map Value.string)) := Lib.hid (own_at HOWN.out (fun g h1 h2 => (hb5.block g (by omega)).trans ((hg4.block g (by omega) (by have := HSZ.out; show ¬ g = R; omega)).trans (hb13.block g h2)))))
      | (at_builtin; refine wpList_append_own_at (P := Tryz.prog) _ rfl (.tmp 19) (.tmp 23) 22 rfl W.heap.size 9 i0 (.string ⟨#[]⟩) 1 16 Tryz.underlying22 hi iz0 iz1 iz2 rfl (by decide) _ k _ rfl HOA.out ⟨w4.heap.size, 0, none⟩ 1 1 [.string t2] rfl rfl (fun j u hu => by rw [Addr.add_lit, Nat.zero_add]; rw [HX1.out.cell j]; simpa using hu) (fun u hu => by simp only [List.mem_cons, List.not_mem_nil, or_false] at hu; rw [hu]; rfl) (Nat.le_trans (show k + 1 ≤ 1048577 by omega) (by decide)) (by omega) (by simp only [World.size_alloc]; omega) ?_; intro v' w6 hown6 hg6 _ _))
     go_roundg (n - k)
     case measure => have := HGK.out; omega
     case rel =>
      have hfa : Fr w4 w6 (fun q => (Value.slice B5 k c5).ownBlock = some q) := ((Fr.refl w4 _).below hb5).grown hg6 (fun q e => .inl e)
      have hnR : ∀ q, (Value.slice B5 k c5).ownBlock = some q → W.heap.size ≤ q ∧ q < wr.heap.size := own_b HOWN.out
      have hkp : Kp R0 w4 w6 := .of_fr hfa (fun b hb e => by have := H0.out b hb; have := (hnR b e).1; have := HSZ.out; omega)
      refine ⟨k + 1, by have := HGK.out; omega, by omega, by rw [HSN.out, List.map_append]; exact hown6, ?_, ?_, ?_, ?_, ?_⟩
      · exact ⟨hfa.blk hp4.1 (fun e => by have := (hnR R e).1; have := HSZ.out; omega), hp4.2.1, hp4.2.2.1.keep hkp, hp4.2.2.2⟩
      · intro j hj
        by_cases h : j < k
        · exact HKD.out j h
        · obtain rfl : j = k := by omega
          exact HK2.out
      · exact ((hf1.below hb13).step hg4 (fun _ hk => .inl hk)).step hfa (fun q e => .inr (by have := (hnR q e).1; have := HSZ.out; omega))
      · exact hfa.blk (hg4.blk (pb1.below hb13) hne) (fun e => by have := (hnR b2 e).1; have := HSZ.out; have := HB2.out; omega)
      · have := hfa.size; omega
    ·
     have hkr := kind_r hp1
     have hne2 : ((P.kd (ws.drop (a + k)) : Int) != 2) = true := by simp; omega
     obtain ⟨kd, hkdv⟩ : ∃ kd, P.kd (ws.drop (a + k)) = kd := ⟨_, rfl⟩
     rw [hkdv] at hkr hne2
     obtain ⟨en, eb⟩ := nms_at ws k a HKD.out (by rw [hkdv]; omega)
     have hXe := HXe.out
     have hbt : P.bound e (P.G e f) kk (ws.drop a) = P.wrong e (ws.drop (a + k)) := by
      unfold P.bound
      rw [eb, if_pos]
      have h0 : P.nms (ws.drop a) = [] := by rw [en, HK0.out]; simp
      simp [h0]
     rw [hbt] at hXe
     have HKR := Lib.hid hkr
     have HBT := Lib.hid hXe
     clear hkr hkdv hk2 en eb hXe hbt
     go_wp2_with (first
      | (go_at_call 161; refine HKR.out.mono ?_; rintro ex w3 ⟨rfl, hb3⟩; have hp3 := hp1.below hb3; have hb13 := hb3)
      | (go_at_call 39; refine (wrong_r hp3).mono ?_; rintro ex w4 ⟨cd, p, hwr, rfl, hb4⟩))
     rw [← HBT.out, hwr]
     exact ⟨rfl, rfl, (hf1.below hb13).below hb4⟩
   ·
    have e0 : ((k : Int) == 0) = false := by simp; omega
    have hnw : P.isW ⟨#[46]⟩ (ws.drop (a + k)) = false := by
     rw [← Bool.not_eq_true]
     exact fun h => hex ⟨by omega, h⟩
    have hpk := peek_r hp1 ⟨#[46]⟩ 0 (by omega) 0 rfl
    rw [Nat.add_zero, hnw] at hpk
    have HPK := Lib.hid hpk
    have HNW := Lib.hid hnw
    clear hpk hnw hex
    by_cases hk2 : P.kd (ws.drop (a + k)) = 2
    ·
     have hlt : a + k < ws.length := by
      obtain ⟨t, r, hl, _⟩ := P.kd_cons hk2 (by decide)
      have := congrArg List.length hl
      simp at this
      omega
     have hkn2 : k < n := by have := HN.out; omega
     have hkr := fun (w' : World) (hb : Below wr.heap.size wr w') => kind_r (hp1.below hb)
     rw [hk2] at hkr
     have HKR := Lib.hid hkr
     have HK2 := Lib.hid hk2
     clear hk2 hkr
     obtain ⟨⟨t1, t2, t3, t4⟩, ht⟩ : ∃ t, ws.getD (a + k) wd0 = t := ⟨_, rfl⟩
     have hsn := take_next ws a k hlt
     rw [ht] at hsn
     have hnx := fun (w' : World) (h : Pa w' R R0 A c ws e (a + k)) => next_r h hlt
     rw [ht] at hnx
     have HNX := Lib.hid hnx
     have HSN := Lib.hid hsn
     clear hnx hsn ht
     go_wp2_with (first
      | (go_at_call 110; refine HPK.out.mono ?_; rintro ex w2 ⟨rfl, hb2⟩)
      | (go_at_call 161; refine (HKR.out _ hb2).mono ?_; rintro ex w3 ⟨rfl, hb3⟩; have hp3 := hp1.below (below_on hb2 hb3); have hb13 := below_on hb2 hb3; have h1s := hb13.size)
      | (go_at_call 162; refine (HNX.out _ hp3).mono ?_; rintro ex w4 ⟨B, d, rfl, _, hp4, hg4⟩; have hb5 := below_alloc1 w4 (.cells #[.string t2] 9); have h4s := hg4.size; have HX1 := Lib.hid (Blk.new w4 9 #[.string t2]); have HOA : Hid ((w4.alloc (.cells #[.string t2] 9)).ownsRow W.heap.size 9 1 (.slice B5 k c5) k ((((ws.drop a).take k).map (fun t : Wd => t.2.1)).map Value.string)) := Lib.hid (own_at HOWN.out (fun g h1 h2 => (hb5.block g (by omega)).trans ((hg4.block g (by omega) (by have := HSZ.out; show ¬ g = R; omega)).trans (hb13.block g h2)))))
      | (at_builtin; refine wpList_append_own_at (P := Tryz.prog) _ rfl (.tmp 19) (.tmp 23) 22 rfl W.heap.size 9 i0 (.string ⟨#[]⟩) 1 16 Tryz.underlying22 hi iz0 iz1 iz2 rfl (by decide) _ k _ rfl HOA.out ⟨w4.heap.size, 0, none⟩ 1 1 [.string t2] rfl rfl (fun j u hu => by rw [Addr.add_lit, Nat.zero_add]; rw [HX1.out.cell j]; simpa using hu) (fun u hu => by simp only [List.mem_cons, List.not_mem_nil, or_false] at hu; rw [hu]; rfl) (Nat.le_trans (show k + 1 ≤ 1048577 by omega) (by decide)) (by omega) (by simp only [World.size_alloc]; omega) ?_; intro v' w6 hown6 hg6 _ _))
     go_roundg (n - k)
     case measure => have := HGK.out; omega
     case rel =>
      have hfa : Fr w4 w6 (fun q => (Value.slice B5 k c5).ownBlock = some q) := ((Fr.refl w4 _).below hb5).grown hg6 (fun q e => .inl e)
      have hnR : ∀ q, (Value.slice B5 k c5).ownBlock = some q → W.heap.size ≤ q ∧ q < wr.heap.size := own_b HOWN.out
      have hkp : Kp R0 w4 w6 := .of_fr hfa (fun b hb e => by have := H0.out b hb; have := (hnR b e).1; have := HSZ.out; omega)
      refine ⟨k + 1, by have := HGK.out; omega, by omega, by rw [HSN.out, List.map_append]; exact hown6, ?_, ?_, ?_, ?_, ?_⟩
      · exact ⟨hfa.blk hp4.1 (fun e => by have := (hnR R e).1; have := HSZ.out; omega), hp4.2.1, hp4.2.2.1.keep hkp, hp4.2.2.2⟩
      · intro j hj
        by_cases h : j < k
        · exact HKD.out j h
        · obtain rfl : j = k := by omega
          exact HK2.out
      · exact ((hf1.below hb13).step hg4 (fun _ hk => .inl hk)).step hfa (fun q e => .inr (by have := (hnR q e).1; have := HSZ.out; omega))
      · exact hfa.blk (hg4.blk (pb1.below hb13) hne) (fun e => by have := (hnR b2 e).1; have := HSZ.out; have := HB2.out; omega)
      · have := hfa.size; omega
    ·
     have hkr := fun (w' : World) (hb : Below wr.heap.size wr w') => kind_r (hp1.below hb)
     have hne2 : ((P.kd (ws.drop (a + k)) : Int) != 2) = true := by simp; omega
     obtain ⟨kd, hkdv⟩ : ∃ kd, P.kd (ws.drop (a + k)) = kd := ⟨_, rfl⟩
     rw [hkdv] at hkr hne2
     obtain ⟨en, eb⟩ := nms_at ws k a HKD.out (by rw [hkdv]; omega)
     have hXe := HXe.out
     have hbt : P.bound e (P.G e f) kk (ws.drop a) = P.wrong e (ws.drop (a + k)) := by
      unfold P.bound
      rw [eb, if_pos]
      simp [HNW.out]
     rw [hbt] at hXe
     have HKR := Lib.hid hkr
     have HBT := Lib.hid hXe
     clear hkr hkdv hk2 en eb hXe hbt
     go_wp2_with (first
      | (go_at_call 110; refine HPK.out.mono ?_; rintro ex w2 ⟨rfl, hb2⟩)
      | (go_at_call 161; refine (HKR.out _ hb2).mono ?_; rintro ex w3 ⟨rfl, hb3⟩; have hp3 := hp1.below (below_on hb2 hb3); have hb13 := below_on hb2 hb3)
      | (go_at_call 39; refine (wrong_r hp3).mono ?_; rintro ex w4 ⟨cd, p, hwr, rfl, hb4⟩))
     rw [← HBT.out, hwr]
     exact ⟨rfl, rfl, (hf1.below hb13).below hb4⟩
end
end
section
open Go.RowKit
theorem X.lexF_facts (l : List UInt8) : ∀ (f at_ : Nat), at_ ≤ l.length → (∀ x ∈ (X.lexF l f at_).1, x.2.1 + x.2.2 ≤ l.length ∧ X.one (l.drop x.2.1) = (0, x.1, x.2.2)) ∧ ((X.lexF l f at_).1.map (fun x => x.2.2)).sum + at_ ≤ l.length ∧ (X.lexF l f at_).1.length ≤ ((X.lexF l f at_).1.map (fun x => x.2.2)).sum ∧ ((X.lexF l f at_).2.1 = 0 → (X.lexF l f at_).2.2 = 0)
 | 0, at_, h => by simp [X.lexF, h]
 | f + 1, at_, h => by
  unfold X.lexF
  by_cases h1 : l.length ≤ at_
  · rw [if_pos h1]
    simp [h]
  ·
   rw [if_neg h1]
   by_cases h2 : X.blank (l.getD at_ 0) = true
   · rw [if_pos h2]
     obtain ⟨a1, a2, a3, a4⟩ := X.lexF_facts l f (at_ + 1) (by omega)
     exact ⟨a1, by omega, a3, a4⟩
   ·
    rw [if_neg h2]
    by_cases h3 : (X.one (l.drop at_)).1 ≠ 0
    · rw [if_pos h3]
      simp only [List.map_nil, List.sum_nil, List.length_nil]
      exact ⟨fun x hx => (by cases hx), by omega, Nat.le_refl _, fun h => absurd h h3⟩
    ·
     rw [if_neg h3]
     have h3 : (X.one (l.drop at_)).1 = 0 := Decidable.not_not.1 h3
     obtain ⟨p1, _, p2⟩ := X.one_pos h3
     rw [List.length_drop] at p2
     obtain ⟨a1, a2, a3, a4⟩ := X.lexF_facts l f (at_ + (X.one (l.drop at_)).2.2) (by omega)
     simp only [List.map_cons, List.sum_cons, List.length_cons]
     refine ⟨fun x hx => ?_, by omega, by omega, a4⟩
     rcases List.mem_cons.1 hx with rfl | hx
     · refine ⟨by show at_ + (X.one (l.drop at_)).2.2 ≤ l.length; omega, ?_⟩
       show X.one (l.drop at_) = _
       rw [← h3]
     · exact a1 x hx
theorem X.lex_facts (l : List UInt8) : (∀ x ∈ (X.lex l 0).1, x.2.1 + x.2.2 ≤ l.length ∧ X.one (l.drop x.2.1) = (0, x.1, x.2.2)) ∧ ((X.lex l 0).1.map (fun x => x.2.2)).sum ≤ l.length ∧ (X.lex l 0).1.length ≤ ((X.lex l 0).1.map (fun x => x.2.2)).sum ∧ ((X.lex l 0).2.1 = 0 → (X.lex l 0).2.2 = 0) := by
 obtain ⟨a1, a2, a3, a4⟩ := X.lexF_facts l (l.length + 1 - 0) 0 (Nat.zero_le _)
 exact ⟨a1, by simpa [X.lex] using a2, a3, a4⟩
theorem X.ans_facts (l : List UInt8) (hl : l.length ≤ 4096) : (∀ x ∈ (X.ans l).1, x.2.1 + x.2.2 ≤ l.length ∧ X.one (l.drop x.2.1) = (0, x.1, x.2.2)) ∧ ((X.ans l).1.map (fun x => x.2.2)).sum ≤ l.length ∧ (X.ans l).1.length ≤ ((X.ans l).1.map (fun x => x.2.2)).sum ∧ ((X.ans l).2.1 = 0 → (X.ans l).2.2 = 0) := by
 have ht : X.tokens l = X.lex l 0 := by unfold X.tokens; rw [if_neg (by omega)]
 unfold X.ans
 rw [ht]
 split
 · exact X.lex_facts l
 · rename_i h
   exact ⟨fun x hx => (by cases hx), by simp, Nat.le_refl _, fun h' => absurd h' h⟩
theorem X.one_name {l : List UInt8} {n : Nat} (h : X.one l = (0, 2, n)) : X.name (l.take n) = true ∧ 0 < n := by
 unfold X.one at h
 split at h
 ·
  rename_i hr
  have h1 := congrArg (fun p => p.2.1) h
  have h2 := congrArg (fun p => p.2.2) h
  simp only at h1 h2
  rw [h2] at h1
  refine ⟨?_, by omega⟩
  unfold X.rowed at h1
  split at h1
  · split at h1 <;> simp at h1
  · split at h1
    · simp at h1
    · split at h1
      · rename_i hn; exact hn
      · simp at h1
 · split at h
   · simp at h
   · simp at h
theorem dot_ok (l : List UInt8) (hl : l.length ≤ 4096) : DotOk (X.tks l (X.ans l).1) := by
 intro i hi hk e
 rw [X.tks_len] at hi
 rw [X.tks_get _ _ _ hi] at hk e
 dsimp only at hk e
 obtain ⟨x, hx⟩ : ∃ x, (X.ans l).1.getD i (0, 0, 0) = x := ⟨_, rfl⟩
 rw [hx] at hk e
 have hm : x ∈ (X.ans l).1 := by
  rw [← hx]
  simp [List.getD, hi]
 obtain ⟨_, h1⟩ := (X.ans_facts l hl).1 x hm
 rw [hk] at h1
 have hn := (X.one_name h1).1
 have e2 : (l.drop x.2.1).take x.2.2 = [46] := by
  have := congrArg (fun s : ByteArray => s.data.toList) e
  simpa using this
 rw [e2] at hn
 exact absurd hn (by decide)
def wt (x : Wd) : Nat := x.2.1.size + x.2.2.1.length + 2
def wsum (ws : List Wd) : Nat := (ws.map wt).sum
theorem N.fold_lt : ∀ (l : List UInt8) (a : Nat), l.foldl (fun a c => 10 * a + (c.toNat - 48)) a < (a + 1) * 4294967296 ^ l.length
 | [], a => by simp
 | c :: r, a => by
  have h := N.fold_lt r (10 * a + (c.toNat - 48))
  have hc := c.toNat_lt
  have h2 : (10 * a + (c.toNat - 48) + 1) * 4294967296 ^ r.length ≤ ((a + 1) * 4294967296) * 4294967296 ^ r.length := Nat.mul_le_mul_right _ (by omega)
  simp only [List.foldl_cons, List.length_cons]
  rw [Nat.pow_succ, Nat.mul_comm (4294967296 ^ r.length), ← Nat.mul_assoc]
  omega
theorem N.val_le32 (l : List UInt8) : N.val l < 4294967296 ^ l.length := by
 have := N.fold_lt l 0
 simpa [N.val] using this
theorem wsum_tks (l : List UInt8) : ∀ (ps : List (Nat × Nat × Nat)), (∀ x ∈ ps, x.2.1 + x.2.2 ≤ l.length) → wsum (X.tks l ps) ≤ 2 * (ps.map (fun x => x.2.2)).sum + 2 * ps.length
 | [], _ => by simp [wsum, X.tks]
 | x :: r, h => by
  have ih := wsum_tks l r (fun y hy => h y (List.mem_cons_of_mem _ hy))
  have hx := h x List.mem_cons_self
  have hln : ((l.drop x.2.1).take x.2.2).length = x.2.2 := by simp; omega
  have hb : (if x.1 = 1 then N.ofN (N.val ((l.drop x.2.1).take x.2.2)) else []).length ≤ x.2.2 := by
   split
   · have := N.ofN_length_le (N.val_le32 ((l.drop x.2.1).take x.2.2))
     omega
   · simp
  simp only [wsum, X.tks, List.map_cons, List.sum_cons, List.length_cons, wt] at ih ⊢
  have hsz : (⟨((l.drop x.2.1).take x.2.2).toArray⟩ : ByteArray).size = x.2.2 := by
   show ((l.drop x.2.1).take x.2.2).toArray.size = _
   simp; omega
  rw [hsz]
  omega
end
end Go.Proofs.YthiadenmljbdaaaGreatDoor

/-
  l: the parts QOper.
-/
import Derived.Test.YthiadenmljbdaaaGreatDoorB14l
import Derived.Deep.Cut
import Derived.Deep.RegionHeld3
namespace Go.Proofs.YthiadenmljbdaaaGreatDoor
section
open Go.RowKit
attribute [local go_sem] Oper.semAt_some
section
variable {R0 : Nat → Prop} {A : Option Addr} {c e : Nat} {ws : List Wd}
set_option maxRecDepth 100000 in
set_option maxHeartbeats 6400000 in
theorem oper_w (f : Nat) (hop : Rule R0 A c ws e f .oper 172) (hsm : Rule R0 A c ws e f .sum 164) : Rule R0 A c ws e (f + 1) .oper 172 := by
 intro w R a hp h0 hX
 rw [P.G_succ] at hX ⊢
 obtain ⟨X, hXe⟩ : ∃ X, P.step e (P.G e f) .oper (ws.drop a) = X := ⟨_, rfl⟩
 rw [hXe] at hX ⊢
 obtain ⟨W, hW, pb, hbW⟩ := made_blk w tz 28
 obtain ⟨b2, hb2⟩ : ∃ b, b = w.heap.size := ⟨_, rfl⟩
 have hRl : R < w.heap.size := hp.1.lt
 have hsz : W.heap.size = w.heap.size + 1 := by rw [hW]; simp
 have hp0 := hp.below hbW
 have hf0 : Fr w W (fun k => k = R) := Fr.of_below hbW
 have hne : ¬ b2 = R := by omega
 have pb0 : Blk W b2 28 tz := by rw [hb2]; exact pb
 have HW := Lib.hid hW
 have H0 := Lib.hid h0
 have HB2 := Lib.hid hb2
 have HSZ := Lib.hid hsz
 clear hp hbW pb hW h0 hsz hb2
 have HOP := Lib.hid hop
 have HSM := Lib.hid hsm
 clear hop hsm
 have hs0 : W.heap.size ≤ W.heap.size := Nat.le_refl _
 by_cases h1 : P.isW ⟨#[45]⟩ (ws.drop a) = true
 ·
  simp only [P.step, h1, if_true, tail_drop] at hXe
  have H1 := Lib.hid h1
  clear h1
  cases hY : P.G e f .oper (ws.drop (a + 1)) with
  | out => rw [hY] at hXe; exact absurd hXe.symm hX
  | bad cd p =>
   rw [hY] at hXe
   have hXe : P.Rd.bad cd p = X := hXe
   subst hXe
   have HY := Lib.hid hY
   clear hX hY
   go_enter Tryz.func172, Tryz.ntmps172
   go_upto_region 1 with (fail)
   rw [← HW.out, ← HB2.out]
   go_upto_region 2 with (go_at_call 68; refine (is_yes hp0 _ H1.out).mono ?_; rintro ex w1 ⟨rfl, hp1, hg1⟩)
   have hf1 := hf0.step hg1 (fun _ hk => .inl hk)
   have pb1 := hg1.blk pb0 hne
   have hs1 : W.heap.size ≤ w1.heap.size := by have := hg1.size; omega
   go_wp2_with (go_at_call 172; refine (HOP.out.bad hp1 (hf1.lt H0.out) HY.out).mono ?_; rintro ex w9 ⟨rfl, hf9⟩)
   exact ⟨rfl, rfl, hf1.step hf9 (fun _ hk => .inl hk)⟩
  | ok u r =>
   rw [hY] at hXe
   have hXe : P.Rd.ok (P.nd 3 [u]) r = X := hXe
   subst hXe
   have HY := Lib.hid hY
   clear hX hY
   go_enter Tryz.func172, Tryz.ntmps172
   go_upto_region 1 with (fail)
   rw [← HW.out, ← HB2.out]
   go_upto_region 2 with (go_at_call 68; refine (is_yes hp0 _ H1.out).mono ?_; rintro ex w1 ⟨rfl, hp1, hg1⟩)
   have hf1 := hf0.step hg1 (fun _ hk => .inl hk)
   have pb1 := hg1.blk pb0 hne
   have hs1 : W.heap.size ≤ w1.heap.size := by have := hg1.size; omega
   go_wp2_with (go_at_call 172; refine (HOP.out.ok hp1 (hf1.lt H0.out) HY.out).mono ?_; rintro ex w9 ⟨v, a9, rfl, rfl, hp9, hg9, hf9⟩; obtain ⟨F1, f1, F2, f2, F3, f3, rfl⟩ := hg9.form; have HPB9 := Lib.hid ((hf9.blk pb1 hne).below (below_alloc1 w9 (row1 (tc u.k u.nm F1 u.ns.length f1 u.ng F2 u.mg.length f2 F3 u.ks.length f3)))); have qx := HPB9.out.open6)
   refine bodyPost_ret (results_tr rfl _ _ _ _ _ _ _ _ _ rfl (HPB9.out.set6 _ _ _ _ _ _)) rfl ?_
   exact ans_one (b := b2) (lo := W.heap.size) (Nat.le_of_eq HB2.out.symm) (by have := HB2.out; have := HSZ.out; omega) hs1 (hf1.step hf9 (fun _ hk => .inl hk)) hp9 hg9 (NmE.nil _ _ _ _) (Lm.nil _ _) (fr6 _ _ _ _ _ _ _ _) H0.out hRl
 ·
  rw [Bool.not_eq_true] at h1
  have H1 := Lib.hid h1
  by_cases h2 : P.isW ⟨#[40]⟩ (ws.drop a) = true
  ·
   simp only [P.step, h1, h2, if_true, Bool.false_eq_true, if_false, tail_drop] at hXe
   have H2 := Lib.hid h2
   clear h1 h2
   cases hY : P.G e f .sum (ws.drop (a + 1)) with
   | out => rw [hY] at hXe; exact absurd hXe.symm hX
   | bad cd p =>
    rw [hY] at hXe
    have hXe : P.Rd.bad cd p = X := hXe
    subst hXe
    have HY := Lib.hid hY
    clear hX hY
    go_enter Tryz.func172, Tryz.ntmps172
    go_upto_region 1 with (fail)
    rw [← HW.out, ← HB2.out]
    go_upto_region 3 with (go_at_call 68; refine (is_no hp0 _ H1.out).mono ?_; rintro ex w1 ⟨rfl, hb1⟩)
    have hp1 := hp0.below hb1
    have hf1 := hf0.below hb1
    have pb1 := pb0.below hb1
    go_upto_region 4 with (go_at_call 68; refine (is_yes hp1 _ H2.out).mono ?_; rintro ex w2 ⟨rfl, hp2, hg2⟩)
    have hf2 := hf1.step hg2 (fun _ hk => .inl hk)
    have pb2 := hg2.blk pb1 hne
    have hs2 : W.heap.size ≤ w2.heap.size := by have := hb1.size; have := hg2.size; omega
    go_wp2_with (go_at_call 164; refine (HSM.out.bad hp2 (hf2.lt H0.out) HY.out).mono ?_; rintro ex w9 ⟨rfl, hf9⟩)
    exact ⟨rfl, rfl, hf2.step hf9 (fun _ hk => .inl hk)⟩
   | ok u r =>
    rw [hY] at hXe
    have hXe : (if P.isW ⟨#[41]⟩ r = true then P.Rd.ok u r.tail else P.wrong e r) = X := hXe
    have HY := Lib.hid hY
    clear hX hY
    go_enter Tryz.func172, Tryz.ntmps172
    go_upto_region 1 with (fail)
    rw [← HW.out, ← HB2.out]
    go_upto_region 3 with (go_at_call 68; refine (is_no hp0 _ H1.out).mono ?_; rintro ex w1 ⟨rfl, hb1⟩)
    have hp1 := hp0.below hb1
    have hf1 := hf0.below hb1
    have pb1 := pb0.below hb1
    go_upto_region 4 with (go_at_call 68; refine (is_yes hp1 _ H2.out).mono ?_; rintro ex w2 ⟨rfl, hp2, hg2⟩)
    have hf2 := hf1.step hg2 (fun _ hk => .inl hk)
    have pb2 := hg2.blk pb1 hne
    have hs2 : W.heap.size ≤ w2.heap.size := by have := hb1.size; have := hg2.size; omega
    go_upto_region 5 with (go_at_call 164; refine (HSM.out.ok hp2 (hf2.lt H0.out) HY.out).mono ?_; rintro ex w3 ⟨v, a9, rfl, rfl, hp3, hgt, hg3⟩; obtain ⟨F1, f1, F2, f2, F3, f3, rfl⟩ := hgt.form)
    have hf3 := hf2.step hg3 (fun _ hk => .inl hk)
    have pb3 := hg3.blk pb2 hne
    obtain ⟨w4, hw4, pc4, hb4⟩ := made_blk w3 #[.int .i64 u.k, .string u.nm, .slice F1 u.ns.length f1, .bool u.ng, .slice F2 u.mg.length f2, .slice F3 u.ks.length f3] 28
    obtain ⟨b3, hb3⟩ : ∃ b, b = w3.heap.size := ⟨_, rfl⟩
    rw [← hw4, ← hb3]
    rw [← hb3] at pc4
    have hp4 := hp3.below hb4
    have hf4 := hf3.below hb4
    have pb4 := pb3.below hb4
    have hgt4 := hgt.later hb4 (Nat.le_refl _)
    have hs3 := hg3.size
    have hs4 := hb4.size
    have hne3 : ¬ b3 = R := by have := hg2.size; have := HSZ.out; omega
    have HB3 := Lib.hid hb3
    have HXE := Lib.hid hXe
    clear hw4 hb3 hXe
    by_cases h5 : P.isW ⟨#[41]⟩ (ws.drop a9) = true
    ·
     have hXe := HXE.out
     rw [if_pos h5, tail_drop] at hXe
     subst hXe
     go_upto_region 6 with (go_at_call 163; refine (must_yes hp4 _ h5).mono ?_; rintro ex w5 ⟨rfl, hp5, hg5⟩)
     have hf5 := hf4.step hg5 (fun _ hk => .inl hk)
     have HPB5 := Lib.hid (hg5.blk pb4 hne)
     have pc5 := hg5.blk pc4 hne3
     have qx := HPB5.out.open6
     obtain ⟨y0, y1, y2, y3, y4, y5⟩ := pc5.six
     clear h5
     go_wp2_with fail
     refine bodyPost_ret (results_tr rfl _ _ _ _ _ _ _ _ _ rfl (HPB5.out.set6 _ _ _ _ _ _)) rfl ?_
     exact ans_sub (b := b2) (Nat.le_of_eq HB2.out.symm) (by have := HB2.out; have := HSZ.out; have := hs2; omega) hf5 hp5 ((hgt4.fr hg5 (fun b hb e => by have := H0.out b hb; have : b = R := e; exact hp5.2.1 (this ▸ hb)) (fun b h1 h2 _ e => by have : b = R := e; have := hs2; have := HSZ.out; omega) hs4).wide (Nat.le_refl _) (Nat.le_trans hs4 hg5.size)) (fr6 _ _ _ _ _ _ _ _) H0.out hRl
    · rw [Bool.not_eq_true] at h5
      have hXe := HXE.out
      rw [h5, if_neg (by decide)] at hXe
      subst hXe
      go_wp2_with (go_at_call 163; refine (must_no hp4 _ h5).mono ?_; rintro ex w5 ⟨cd, p, hwr, rfl, hb5⟩)
      exact ⟨rfl, rfl, hf4.below hb5⟩
  ·
   rw [Bool.not_eq_true] at h2
   have H2 := Lib.hid h2
   by_cases h3 : P.kd (ws.drop a) = 2
   ·
    have hlt := kd_lt h3 (by decide)
    simp only [P.step, h1, h2, h3, if_true, Bool.false_eq_true, if_false, tail_drop, P.tx_drop ws a hlt] at hXe
    subst hXe
    obtain ⟨⟨t1, t2, t3, t4⟩, ht⟩ : ∃ t, ws.getD a wd0 = t := ⟨_, rfl⟩
    have hnx := fun (w' : World) (h : Pa w' R R0 A c ws e a) => next_r h hlt
    have hkr := fun (w' : World) (h : Pa w' R R0 A c ws e a) => kind_r h
    rw [ht] at hnx ⊢
    rw [h3] at hkr
    have HNX := Lib.hid hnx
    have HKR := Lib.hid hkr
    have hfd := run_field1
    clear h1 h2 h3 hnx hkr ht hX
    go_enter Tryz.func172, Tryz.ntmps172
    go_upto_region 1 with (fail)
    rw [← HW.out, ← HB2.out]
    go_upto_region 3 with (go_at_call 68; refine (is_no hp0 _ H1.out).mono ?_; rintro ex w1 ⟨rfl, hb1⟩)
    have hp1 := hp0.below hb1
    have hf1 := hf0.below hb1
    have pb1 := pb0.below hb1
    go_upto_region 7 with (go_at_call 68; refine (is_no hp1 _ H2.out).mono ?_; rintro ex w2 ⟨rfl, hb2⟩)
    have hp2 := hp1.below hb2
    have hf2 := hf1.below hb2
    have pb2 := pb1.below hb2
    have hs2 : W.heap.size ≤ w2.heap.size := by have := hb1.size; have := hb2.size; omega
    go_wp2_with (first
     | (go_at_call 161; refine (HKR.out _ hp2).mono ?_; rintro ex w3 ⟨rfl, hb3⟩; have hp3 := hp2.below hb3; have hf3 := hf2.below hb3; have pb3 := pb2.below hb3)
     | (go_at_call 162; refine (HNX.out _ hp3).mono ?_; rintro ex w4 ⟨B, d, rfl, _, hp4, hg4⟩; have HPB4 := Lib.hid (hg4.blk pb3 hne); have qx := HPB4.out.open6))
    refine bodyPost_ret (results_tr rfl _ _ _ _ _ _ _ _ _ rfl (HPB4.out.set6 _ _ _ _ _ _)) rfl ?_
    exact ans_leaf (b := b2) (Nat.le_of_eq HB2.out.symm) (by have := HB2.out; have := HSZ.out; have := hs2; have := hb3.size; have := hg4.size; omega) (hf3.step hg4 (fun _ hk => .inl hk)) hp4 (Lm.nil _ _) (fr6 _ _ _ _ _ _ _ _) H0.out hRl
   ·
    by_cases h4 : P.kd (ws.drop a) = 1
    ·
     have hlt := kd_lt h4 (by decide)
     have h40 : P.kd (ws.drop a) ≠ 2 := h3
     simp only [P.step, h1, h2, h4, if_true, Bool.false_eq_true, if_false, tail_drop, P.mg_drop ws a hlt, show ((1 : Nat) = 2) = False by decide] at hXe
     obtain ⟨⟨t1, t2, t3, t4⟩, ht⟩ : ∃ t, ws.getD a wd0 = t := ⟨_, rfl⟩
     have hnx := fun (w' : World) (h : Pa w' R R0 A c ws e a) => next_r h hlt
     have hkr := fun (w' : World) (h : Pa w' R R0 A c ws e a) => kind_r h
     rw [ht] at hnx hXe
     dsimp only at hnx hXe
     rw [h4] at hkr
     have HNX := Lib.hid hnx
     have HKR := Lib.hid hkr
     have hfd := run_field2
     clear h1 h2 h3 h4 h40 hnx hkr ht
     have hal : a + 1 ≤ ws.length := hlt
     by_cases h5 : P.isW ⟨#[42]⟩ (ws.drop (a + 1)) = true
     ·
      simp only [h5, if_true] at hXe
      have H5 := Lib.hid h5
      clear h5
      cases hY : P.G e f .oper (ws.drop (a + 1 + 1)) with
      | out => rw [hY] at hXe; exact absurd hXe.symm hX
      | bad cd p =>
       rw [hY] at hXe
       have hXe : P.Rd.bad cd p = X := hXe
       subst hXe
       have HY := Lib.hid hY
       clear hX hY
       go_enter Tryz.func172, Tryz.ntmps172
       go_upto_region 1 with (fail)
       rw [← HW.out, ← HB2.out]
       go_upto_region 3 with (go_at_call 68; refine (is_no hp0 _ H1.out).mono ?_; rintro ex w1 ⟨rfl, hb1⟩)
       have hp1 := hp0.below hb1
       have hf1 := hf0.below hb1
       have pb1 := pb0.below hb1
       go_upto_region 7 with (go_at_call 68; refine (is_no hp1 _ H2.out).mono ?_; rintro ex w2 ⟨rfl, hb2⟩)
       have hp2 := hp1.below hb2
       have hf2 := hf1.below hb2
       have pb2 := pb1.below hb2
       have hs2 : W.heap.size ≤ w2.heap.size := by have := hb1.size; have := hb2.size; omega
       go_upto_region 9 with (go_at_call 161; refine (HKR.out _ hp2).mono ?_; rintro ex w3 ⟨rfl, hb3⟩)
       have hp3 := hp2.below hb3
       have hf3 := hf2.below hb3
       have pb3 := pb2.below hb3
       go_upto_region 10 with (go_at_call 161; refine (HKR.out _ hp3).mono ?_; rintro ex w4 ⟨rfl, hb4⟩)
       have hp4 := hp3.below hb4
       have hf4 := hf3.below hb4
       have pb4 := pb3.below hb4
       go_upto_region 11 with (go_at_call 162; refine (HNX.out _ hp4).mono ?_; rintro ex w5 ⟨B, d, rfl, hlm5, hp5, hg5⟩)
       have hf5 := hf4.step hg5 (fun _ hk => .inl hk)
       have pb5 := hg5.blk pb4 hne
       obtain ⟨w6, hw6, pn6, hb6⟩ := made_blk w5 #[.bool false, .slice B t3.length d] 25
       obtain ⟨b4, hb4'⟩ : ∃ b, b = w5.heap.size := ⟨_, rfl⟩
       rw [← hw6, ← hb4']
       rw [← hb4'] at pn6
       have hp6 := hp5.below hb6
       have hf6 := hf5.below hb6
       have pb6 := pb5.below hb6
       have hlm6 := hlm5.keep (.of_below hb6)
       have hsz2 := hs2
       have hs3 := hb3.size
       have hs4 := hb4.size
       have hs5 := hg5.size
       have hs6 := hb6.size
       have hne4 : ¬ b4 = R := by have := HSZ.out; omega
       have hb24 : ¬ b2 = b4 := by have := HSZ.out; have := HB2.out; omega
       have HB4 := Lib.hid hb4'
       clear hw6 hb4'
       go_upto_region 12 with (go_at_call 68; refine (is_yes hp6 _ H5.out).mono ?_; rintro ex w7 ⟨rfl, hp7, hg7⟩)
       have hf7 := hf6.step hg7 (fun _ hk => .inl hk)
       have pb7 := hg7.blk pb6 hne
       have pn7 := hg7.blk pn6 hne4
       have hlm7 := hlm6.keep (.of_fr hg7 (fun b hb e => hp6.2.1 (e ▸ hb)))
       have hs7 := hg7.size
       have pnd : ∀ w', Fr w7 w' (fun k => k = R ∨ k = b2) → Blk w' b4 25 #[.bool false, .slice B t3.length d] := fun w' h => h.blk pn7 (by rintro (h | h); exact hne4 h; exact hb24 h.symm)
       have hS : ∀ w', Fr w7 w' (fun k => k = R ∨ k = b2) → ((fun w' => w'.cell? ⟨b4, 0, none⟩ = some (.bool false) ∧ w'.cell? ⟨b4, 1, none⟩ = some (.slice B t3.length d))) w' := fun w' h => ⟨(pnd w' h).cell 0, (pnd w' h).cell 1⟩
       have hfd0 : Fr w7 w7.drew (fun k => k = R ∨ k = b2) := Fr.of_below (Below.refl _ _).drew
       have hpd : Pa w7.drew R R0 A c ws e (a + 1 + 1) := hp7.below (Below.refl _ _).drew
       have pbd : Blk w7.drew b2 28 tz := pb7
       refine wp_region_held_drew (S := fun w' => w'.cell? ⟨b4, 0, none⟩ = some (.bool false) ∧ w'.cell? ⟨b4, 1, none⟩ = some (.slice B t3.length d)) (by kernel_rfl) (hS _ hfd0) (fun hHeld => ?_)
       refine take_at 0 (by kernel_rfl) (by kernel_rfl) (by kernel_rfl) (fun _ _ d _ _ h => by cases d <;> exact h) ⟨_, rfl⟩ (by assumption) (fun o ho => ?_)
       simp only [zg1, zg3, zg4] at ho
       subst ho
       refine ⟨?_, ⟨by rfl, ?_⟩, ?_⟩
       rotate_left
       · intro w hSw
         (try dsimp only at hSw)
         (go_simp; try with_reducible rfl)
       (try simp only [Act.put, zs1, zs2, zs3])
       refine take_at 1 (by kernel_rfl) (by kernel_rfl) (by kernel_rfl) (fun _ _ d _ _ h => by cases d <;> exact h) ⟨_, rfl⟩ (by assumption) (fun o ho => ?_)
       simp only [zg1, zg2, zg3, zg4] at ho
       subst ho
       refine ⟨?_, ⟨by rfl, ?_⟩, ?_⟩
       rotate_left
       · intro w hSw
         (try dsimp only at hSw)
         (go_simp; try with_reducible rfl)
       (try simp only [Act.put, zs1, zs2, zs3])
       refine wpAnyH_ready (rs := [2]) (by kernel_rfl) (by simp) ?_
       refine ready_at 2 ⟨_, rfl⟩ (fun o ho K hK => ?_) AllReadyH.nil
       simp only [zg1, zg2, zg3, zg4] at ho
       subst ho
       go_simp
       go_at_call 172
       refine (HOP.out.bad hpd ((hf7.below (Below.refl _ _).drew).lt H0.out) HY.out).mono ?_
       rintro ex w9 ⟨rfl, hf9⟩
       exact ⟨rfl, rfl, (hf7.below (Below.refl _ _).drew).step hf9 (fun _ hk => .inl hk)⟩
      | ok u r =>
       rw [hY] at hXe
       have hXe : P.Rd.ok (.node 6 ⟨#[]⟩ [] false t3 [u]) r = X := hXe
       subst hXe
       have HY := Lib.hid hY
       clear hX hY
       go_enter Tryz.func172, Tryz.ntmps172
       go_upto_region 1 with (fail)
       rw [← HW.out, ← HB2.out]
       go_upto_region 3 with (go_at_call 68; refine (is_no hp0 _ H1.out).mono ?_; rintro ex w1 ⟨rfl, hb1⟩)
       have hp1 := hp0.below hb1
       have hf1 := hf0.below hb1
       have pb1 := pb0.below hb1
       go_upto_region 7 with (go_at_call 68; refine (is_no hp1 _ H2.out).mono ?_; rintro ex w2 ⟨rfl, hb2⟩)
       have hp2 := hp1.below hb2
       have hf2 := hf1.below hb2
       have pb2 := pb1.below hb2
       have hs2 : W.heap.size ≤ w2.heap.size := by have := hb1.size; have := hb2.size; omega
       go_upto_region 9 with (go_at_call 161; refine (HKR.out _ hp2).mono ?_; rintro ex w3 ⟨rfl, hb3⟩)
       have hp3 := hp2.below hb3
       have hf3 := hf2.below hb3
       have pb3 := pb2.below hb3
       go_upto_region 10 with (go_at_call 161; refine (HKR.out _ hp3).mono ?_; rintro ex w4 ⟨rfl, hb4⟩)
       have hp4 := hp3.below hb4
       have hf4 := hf3.below hb4
       have pb4 := pb3.below hb4
       go_upto_region 11 with (go_at_call 162; refine (HNX.out _ hp4).mono ?_; rintro ex w5 ⟨B, d, rfl, hlm5, hp5, hg5⟩)
       have hf5 := hf4.step hg5 (fun _ hk => .inl hk)
       have pb5 := hg5.blk pb4 hne
       obtain ⟨w6, hw6, pn6, hb6⟩ := made_blk w5 #[.bool false, .slice B t3.length d] 25
       obtain ⟨b4, hb4'⟩ : ∃ b, b = w5.heap.size := ⟨_, rfl⟩
       rw [← hw6, ← hb4']
       rw [← hb4'] at pn6
       have hp6 := hp5.below hb6
       have hf6 := hf5.below hb6
       have pb6 := pb5.below hb6
       have hlm6 := hlm5.keep (.of_below hb6)
       have hsz2 := hs2
       have hs3 := hb3.size
       have hs4 := hb4.size
       have hs5 := hg5.size
       have hs6 := hb6.size
       have hne4 : ¬ b4 = R := by have := HSZ.out; omega
       have hb24 : ¬ b2 = b4 := by have := HSZ.out; have := HB2.out; omega
       have HB4 := Lib.hid hb4'
       clear hw6 hb4'
       go_upto_region 12 with (go_at_call 68; refine (is_yes hp6 _ H5.out).mono ?_; rintro ex w7 ⟨rfl, hp7, hg7⟩)
       have hf7 := hf6.step hg7 (fun _ hk => .inl hk)
       have pb7 := hg7.blk pb6 hne
       have pn7 := hg7.blk pn6 hne4
       have hlm7 := hlm6.keep (.of_fr hg7 (fun b hb e => hp6.2.1 (e ▸ hb)))
       have hs7 := hg7.size
       have pnd : ∀ w', Fr w7 w' (fun k => k = R ∨ k = b2) → Blk w' b4 25 #[.bool false, .slice B t3.length d] := fun w' h => h.blk pn7 (by rintro (h | h); exact hne4 h; exact hb24 h.symm)
       have hS : ∀ w', Fr w7 w' (fun k => k = R ∨ k = b2) → ((fun w' => w'.cell? ⟨b4, 0, none⟩ = some (.bool false) ∧ w'.cell? ⟨b4, 1, none⟩ = some (.slice B t3.length d))) w' := fun w' h => ⟨(pnd w' h).cell 0, (pnd w' h).cell 1⟩
       have hfd0 : Fr w7 w7.drew (fun k => k = R ∨ k = b2) := Fr.of_below (Below.refl _ _).drew
       have hpd : Pa w7.drew R R0 A c ws e (a + 1 + 1) := hp7.below (Below.refl _ _).drew
       have pbd : Blk w7.drew b2 28 tz := pb7
       refine wp_region_held_drew (S := fun w' => w'.cell? ⟨b4, 0, none⟩ = some (.bool false) ∧ w'.cell? ⟨b4, 1, none⟩ = some (.slice B t3.length d)) (by kernel_rfl) (hS _ hfd0) (fun hHeld => ?_)
       refine take_at 0 (by kernel_rfl) (by kernel_rfl) (by kernel_rfl) (fun _ _ d _ _ h => by cases d <;> exact h) ⟨_, rfl⟩ (by assumption) (fun o ho => ?_)
       simp only [zg1, zg3, zg4] at ho
       subst ho
       refine ⟨?_, ⟨by rfl, ?_⟩, ?_⟩
       rotate_left
       · intro w hSw
         (try dsimp only at hSw)
         (go_simp; try with_reducible rfl)
       (try simp only [Act.put, zs1, zs2, zs3])
       refine take_at 1 (by kernel_rfl) (by kernel_rfl) (by kernel_rfl) (fun _ _ d _ _ h => by cases d <;> exact h) ⟨_, rfl⟩ (by assumption) (fun o ho => ?_)
       simp only [zg1, zg2, zg3, zg4] at ho
       subst ho
       refine ⟨?_, ⟨by rfl, ?_⟩, ?_⟩
       rotate_left
       · intro w hSw
         (try dsimp only at hSw)
         (go_simp; try with_reducible rfl)
       (try simp only [Act.put, zs1, zs2, zs3])
       refine wpAnyH_ready (rs := [2]) (by kernel_rfl) (by simp) ?_
       refine ready_at 2 ⟨_, rfl⟩ (fun o ho K hK => ?_) AllReadyH.nil
       simp only [zg1, zg2, zg3, zg4] at ho
       subst ho
       go_simp
       go_at_call 172
       refine (HOP.out.ok hpd ((hf7.below (Below.refl _ _).drew).lt H0.out) HY.out).mono ?_
       rintro ex w9 ⟨v, a9, rfl, rfl, hp9, hg9, hf9⟩
       obtain ⟨F1, f1, F2, f2, F3, f3, rfl⟩ := hg9.form
       have hf79 : Fr w7 w9 (fun k => k = R ∨ k = b2) := (hfd0.step hf9 (fun k hk => .inl (.inl hk)))
       have hal9 := below_alloc1 w9 (row1 (tc u.k u.nm F1 u.ns.length f1 u.ng F2 u.mg.length f2 F3 u.ks.length f3))
       have HPB9 := Lib.hid ((hf9.blk pbd hne).below hal9)
       have qx := HPB9.out.open6
       refine hK.out _ _ (hS _ hf79) (fun hHeld2 => ?_)
       replace hHeld := hHeld2
       clear hK K hHeld2
       (try simp only [Act.put, zs1, zs2, zs3])
       refine wpAnyH_ready (rs := [3]) (by kernel_rfl) (by simp) ?_
       refine ready_at 3 ⟨_, rfl⟩ (fun o ho K hK => ?_) AllReadyH.nil
       simp only [zg1, zg2, zg3, zg4] at ho
       subst ho
       go_simp
       refine hK.out _ _ (hS _ (hf79.below hal9)) (fun hHeld2 => ?_)
       replace hHeld := hHeld2
       clear hK K hHeld2
       (try simp only [Act.put, zs1, zs2, zs3])
       refine take_at 4 (by kernel_rfl) (by kernel_rfl) (by kernel_rfl) (fun _ _ d _ _ h => by cases d <;> exact h) ⟨_, rfl⟩ (by assumption) (fun o ho => ?_)
       simp only [zg1, zg2, zg3, zg4] at ho
       subst ho
       refine ⟨?_, ⟨by rfl, ?_⟩, ?_⟩
       rotate_left
       · intro w hSw
         (try dsimp only at hSw)
         (go_simp; try with_reducible rfl)
       (try simp only [Act.put, zs1, zs2, zs3])
       refine wpAnyH_ready (rs := [5]) (by kernel_rfl) (by simp) ?_
       refine ready_at 5 ⟨_, rfl⟩ (fun o ho K hK => ?_) AllReadyH.nil
       simp only [zg1, zg2, zg3, zg4] at ho
       subst ho
       go_simp
       refine hK.out _ _ (hS _ ((hf79.below hal9).step (fr6 _ _ _ _ _ _ _ _) (fun k hk => .inl (.inr hk)))) (fun _ => ?_)
       clear hK K
       refine wpAnyH_done (by kernel_rfl) ?_ _
       (try dsimp only)
       go_wp2_with fail
       refine bodyPost_ret (results_tr rfl _ _ _ _ _ _ _ _ _ rfl (HPB9.out.set6 _ _ _ _ _ _)) rfl ?_
       exact ans_one (b := b2) (lo := W.heap.size) (Nat.le_of_eq HB2.out.symm) (by have := HB2.out; have := HSZ.out; omega) (by show W.heap.size ≤ w7.heap.size; omega) ((hf7.below (Below.refl _ _).drew).step hf9 (fun _ hk => .inl hk)) hp9 hg9 (NmE.nil _ _ _ _) (hlm7.keep (Kp.of_fr hf79 (fun b hb e => by rcases e with e | e; exact hp6.2.1 (e ▸ hb); have := H0.out b hb; have := HB2.out; omega))) (fr6 _ _ _ _ _ _ _ _) H0.out hRl
     ·
      rw [Bool.not_eq_true] at h5
      simp only [h5, Bool.false_eq_true, if_false] at hXe
      have H5 := Lib.hid h5
      clear h5 hX
      subst hXe
      go_enter Tryz.func172, Tryz.ntmps172
      go_upto_region 1 with (fail)
      rw [← HW.out, ← HB2.out]
      go_upto_region 3 with (go_at_call 68; refine (is_no hp0 _ H1.out).mono ?_; rintro ex w1 ⟨rfl, hb1⟩)
      have hp1 := hp0.below hb1
      have hf1 := hf0.below hb1
      have pb1 := pb0.below hb1
      go_upto_region 7 with (go_at_call 68; refine (is_no hp1 _ H2.out).mono ?_; rintro ex w2 ⟨rfl, hb2⟩)
      have hp2 := hp1.below hb2
      have hf2 := hf1.below hb2
      have pb2 := pb1.below hb2
      have hs2 : W.heap.size ≤ w2.heap.size := by have := hb1.size; have := hb2.size; omega
      go_upto_region 9 with (go_at_call 161; refine (HKR.out _ hp2).mono ?_; rintro ex w3 ⟨rfl, hb3⟩)
      have hp3 := hp2.below hb3
      have hf3 := hf2.below hb3
      have pb3 := pb2.below hb3
      go_upto_region 10 with (go_at_call 161; refine (HKR.out _ hp3).mono ?_; rintro ex w4 ⟨rfl, hb4⟩)
      have hp4 := hp3.below hb4
      have hf4 := hf3.below hb4
      have pb4 := pb3.below hb4
      go_upto_region 11 with (go_at_call 162; refine (HNX.out _ hp4).mono ?_; rintro ex w5 ⟨B, d, rfl, hlm5, hp5, hg5⟩)
      have hf5 := hf4.step hg5 (fun _ hk => .inl hk)
      have pb5 := hg5.blk pb4 hne
      obtain ⟨w6, hw6, pn6, hb6⟩ := made_blk w5 #[.bool false, .slice B t3.length d] 25
      obtain ⟨b4, hb4'⟩ : ∃ b, b = w5.heap.size := ⟨_, rfl⟩
      rw [← hw6, ← hb4']
      rw [← hb4'] at pn6
      have hp6 := hp5.below hb6
      have hf6 := hf5.below hb6
      have pb6 := pb5.below hb6
      have hlm6 := hlm5.keep (.of_below hb6)
      have hsz2 := hs2
      have hs3 := hb3.size
      have hs4 := hb4.size
      have hs5 := hg5.size
      have hs6 := hb6.size
      have hne4 : ¬ b4 = R := by have := HSZ.out; omega
      have hb24 : ¬ b2 = b4 := by have := HSZ.out; have := HB2.out; omega
      have HB4 := Lib.hid hb4'
      clear hw6 hb4'
      go_upto_region 13 with (go_at_call 68; refine (is_no hp6 _ H5.out).mono ?_; rintro ex w7 ⟨rfl, hb7⟩)
      have hp7 := hp6.below hb7
      have hf7 := hf6.below hb7
      have hlm7 := hlm6.keep (.of_below hb7)
      have HPB7 := Lib.hid (pb6.below hb7)
      have pn7 := pn6.below hb7
      have hs7 := hb7.size
      have qx := HPB7.out.open6
      obtain ⟨_, y0, y1⟩ := pn7.facts2
      go_wp2_with fail
      refine bodyPost_ret (results_tr rfl _ _ _ _ _ _ _ _ _ rfl (HPB7.out.set6 _ _ _ _ _ _)) rfl ?_
      exact ans_leaf (b := b2) (Nat.le_of_eq HB2.out.symm) (by have := HB2.out; have := HSZ.out; omega) hf7 hp7 hlm7 (fr6 _ _ _ _ _ _ _ _) H0.out hRl
    ·
     simp only [P.step, h1, h2, h3, h4, Bool.false_eq_true, if_false] at hXe
     have hkr := fun (w' : World) (h : Pa w' R R0 A c ws e a) => kind_r h
     obtain ⟨kd, hkd⟩ : ∃ kd, P.kd (ws.drop a) = kd := ⟨_, rfl⟩
     rw [hkd] at hkr h3 h4
     have k2 : ((kd : Int) == 2) = false := by simp; omega
     have k1 : ((kd : Int) == 1) = false := by simp; omega
     have HKR := Lib.hid hkr
     have HXE := Lib.hid hXe
     clear h1 h2 h3 h4 hkr hkd hX hXe
     go_enter Tryz.func172, Tryz.ntmps172
     go_upto_region 1 with (fail)
     rw [← HW.out, ← HB2.out]
     go_upto_region 3 with (go_at_call 68; refine (is_no hp0 _ H1.out).mono ?_; rintro ex w1 ⟨rfl, hb1⟩)
     have hp1 := hp0.below hb1
     have hf1 := hf0.below hb1
     have pb1 := pb0.below hb1
     go_upto_region 7 with (go_at_call 68; refine (is_no hp1 _ H2.out).mono ?_; rintro ex w2 ⟨rfl, hb2⟩)
     have hp2 := hp1.below hb2
     have hf2 := hf1.below hb2
     have pb2 := pb1.below hb2
     have hs2 : W.heap.size ≤ w2.heap.size := by have := hb1.size; have := hb2.size; omega
     go_upto_region 9 with (go_at_call 161; refine (HKR.out _ hp2).mono ?_; rintro ex w3 ⟨rfl, hb3⟩)
     have hp3 := hp2.below hb3
     have hf3 := hf2.below hb3
     go_upto_region 14 with (go_at_call 161; refine (HKR.out _ hp3).mono ?_; rintro ex w4 ⟨rfl, hb4⟩)
     have hp4 := hp3.below hb4
     have hf4 := hf3.below hb4
     go_wp2_with (go_at_call 39; refine (wrong_r hp4).mono ?_; rintro ex w5 ⟨cd, p, hwr, rfl, hb5⟩)
     rw [← HXE.out, hwr]
     exact ⟨rfl, rfl, hf4.below hb5⟩
end
end
end Go.Proofs.YthiadenmljbdaaaGreatDoor

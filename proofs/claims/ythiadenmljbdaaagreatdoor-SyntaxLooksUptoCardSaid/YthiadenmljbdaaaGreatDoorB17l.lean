/-
  l: the parts QSum QForm.
-/
import Derived.Test.YthiadenmljbdaaaGreatDoorB14l
import Derived.Deep.Cut
import Derived.Deep.RegionHeld3
namespace Go.Proofs.YthiadenmljbdaaaGreatDoor
section
open Go.RowKit
attribute [local go_sem] Oper.semAt_some
section
variable {R0 : Nat → Prop} {A : Option Addr} {c e : Nat} {ws : List Wd}
set_option maxRecDepth 100000 in
set_option maxHeartbeats 6400000 in
theorem sum_w (f : Nat) (hop : ∀ f', f' ≤ f → Rule R0 A c ws e f' .oper 172) : Rule R0 A c ws e (f + 1) .sum 164 := by
 intro w R a hp h0 hX
 rw [P.G_succ] at hX ⊢
 obtain ⟨X, hXe⟩ : ∃ X, P.step e (P.G e f) .sum (ws.drop a) = X := ⟨_, rfl⟩
 rw [hXe] at hX ⊢
 obtain ⟨W, hW, pb, hbW⟩ := made_blk w tz 28
 obtain ⟨b2, hb2⟩ : ∃ b, b = w.heap.size := ⟨_, rfl⟩
 have hRl : R < w.heap.size := hp.1.lt
 have hsz : W.heap.size = w.heap.size + 1 := by rw [hW]; simp
 have hp0 := hp.below hbW
 have hf0 : Fr w W (fun k => k = R) := Fr.of_below hbW
 have hne : ¬ b2 = R := by omega
 have pb0 : Blk W b2 28 tz := by rw [hb2]; exact pb
 have HW := Lib.hid hW
 have H0 := Lib.hid h0
 have HB2 := Lib.hid hb2
 have HSZ := Lib.hid hsz
 clear hp hbW pb hW h0 hsz hb2
 have HOP := Lib.hid hop
 clear hop
 have hs0 : W.heap.size ≤ W.heap.size := Nat.le_refl _
 have hXe : (P.G e f .oper (ws.drop a)).bind (fun t r => P.G e f (.sumL t) r) = X := hXe
 cases hY : P.G e f .oper (ws.drop a) with
 | out => rw [hY] at hXe; exact absurd hXe.symm hX
 | bad cd p =>
  rw [hY] at hXe
  have hXe : P.Rd.bad cd p = X := hXe
  subst hXe
  have HY := Lib.hid hY
  clear hX hY
  go_enter Tryz.func164, Tryz.ntmps164
  go_upto_region 1 with (fail)
  rw [← HW.out, ← HB2.out]
  go_wp2_with (go_at_call 172; refine ((HOP.out f (Nat.le_refl _)).bad hp0 (hf0.lt H0.out) HY.out).mono ?_; rintro ex w9 ⟨rfl, hf9⟩)
  exact ⟨rfl, rfl, hf0.step hf9 (fun _ hk => .inl hk)⟩
 | ok u r =>
  rw [hY] at hXe
  have hXe : P.G e f (.sumL u) r = X := hXe
  have HY := Lib.hid hY
  clear hY
  go_enter Tryz.func164, Tryz.ntmps164
  go_upto_region 1 with (fail)
  rw [← HW.out, ← HB2.out]
  go_upto_region 2 with (go_at_call 172; refine ((HOP.out f (Nat.le_refl _)).ok hp0 (hf0.lt H0.out) HY.out).mono ?_; rintro ex w3 ⟨v, a3, rfl, rfl, hp3, hgt, hg3⟩; obtain ⟨F1, f1, F2, f2, F3, f3, rfl⟩ := hgt.form)
  obtain ⟨w4, hw4, pc4, hb4⟩ := made_blk w3 #[.int .i64 u.k, .string u.nm, .slice F1 u.ns.length f1, .bool u.ng, .slice F2 u.mg.length f2, .slice F3 u.ks.length f3] 28
  obtain ⟨b3, hb3⟩ : ∃ b, b = w3.heap.size := ⟨_, rfl⟩
  rw [← hw4, ← hb3]
  rw [← hb3] at pc4
  have hp4 := hp3.below hb4
  have hf4 := (hf0.step hg3 (fun _ hk => .inl hk)).below hb4
  have pb4 := (hg3.blk pb0 hne).below hb4
  have hgt4 := (hgt.later hb4 (Nat.le_refl _)).lift (E' := fun k => k = b3) (fun b _ h e => by have : b = b3 := e; omega)
  have hs3 := hg3.size
  have hs4 := hb4.size
  have hne3 : ¬ b3 = R := by have := HSZ.out; omega
  have hb23 : ¬ b2 = b3 := by have := HSZ.out; have := HB2.out; omega
  have hwb3 : w.heap.size < b3 := by have := HSZ.out; omega
  have HXE := Lib.hid hXe
  have hWR : R < W.heap.size := by have := HSZ.out; omega
  have hhi : w3.heap.size ≤ w4.heap.size := hs4
  have hA4 := hp4.2.2.2.1
  clear hw4 hb3 hXe hp3 hg3 hb4 hgt HY
  go_wp2_with fail
  go_loopg [4] (ws.length + 1 - a3) (fun gk _ wr => ∃ (a1 m1 : Nat) (t : T) (v : Kc) (hi : Nat), gk + a1 = ws.length + 1 ∧ m1 ≤ f ∧ X = P.G e m1 (.sumL t) (ws.drop a1) ∧ Pa wr R R0 A c ws e a1 ∧ Fr w wr (fun k => k = R) ∧ Blk wr b2 28 tz ∧ Blk wr b3 28 (k6 v) ∧ T.GotE wr R0 (fun k => k = b3) t W.heap.size hi v ∧ hi ≤ wr.heap.size ∧ W.heap.size ≤ wr.heap.size)
  case atStart => exact ⟨a3, f, u, _, _, by omega, Nat.le_refl _, HXE.out.symm, hp4, hf4, pb4, pc4, hgt4, hhi, by omega⟩
  case round =>
   clear hp4 hf4 pb4 pc4 hgt4 hhi hA4 HXE hs3 hs4
   obtain ⟨a1, m1, t, v, hi, hgk, hm1, hXe, hp1, hf1', pb1, pc1, hgt1, hhi1, hs1⟩ := hrel
   obtain ⟨G1, g1, G2, g2, G3, g3, rfl⟩ := hgt1.form
   have HGK := Lib.hid hgk
   clear hgk
   cases m1 with
   | zero => exact absurd hXe hX
   | succ m2 =>
    rw [P.G_succ] at hXe
    by_cases c1 : P.isW ⟨#[45]⟩ (ws.drop a1) = true
    ·
     simp only [P.step, c1, if_true, tail_drop] at hXe
     have hlt := isW_lt c1
     have Hc1 := Lib.hid c1
     clear c1
     cases hY : P.G e m2 .oper (ws.drop (a1 + 1)) with
     | out => rw [hY] at hXe; exact absurd hXe hX
     | bad cd p =>
      rw [hY] at hXe
      have HXB := Lib.hid hXe
      clear hXe
      have HY := Lib.hid hY
      clear hX hY
      have hpk5 := peek_r hp1 ⟨#[45]⟩ 0 (by omega) 0 rfl
      rw [Nat.add_zero, Hc1.out] at hpk5
      have HPK5 := Lib.hid hpk5
      clear hpk5
      go_upto_region 4 with (go_at_call 110; refine HPK5.out.mono ?_; rintro ex w5 ⟨rfl, hb5⟩)
      have hp5 := hp1.below hb5
      have hf5 := hf1'.below hb5
      have pb5 := pb1.below hb5
      have pc5 := pc1.below hb5
      have hgt5 := hgt1.later hb5 hhi1
      have hhi5 := Nat.le_trans hhi1 hb5.size
      have hs5 := Nat.le_trans hs1 hb5.size
      obtain ⟨r0, r1, r2⟩ := three hp5.1
      have rf := hp5.1.free 1
      have hwr : IntKind.i64.wrap ((a1 : Int) + 1) = (a1 : Int) + 1 := wrap_nat (by omega) (by have := hp5.2.2.2.2; omega)
      obtain ⟨hp7, hg7⟩ := hp5.inc hlt
      go_upto_region 8 with (fail)
      obtain ⟨w7, hw7⟩ : ∃ W, w5.setCell ⟨R, 1, none⟩ (.int .i64 ((a1 : Int) + 1)) = W := ⟨_, rfl⟩
      rw [hw7] at hp7 hg7 ⊢
      clear hw7 r0 r1 r2 rf hwr
      have hf7 := hf5.step hg7 (fun _ hk => .inl hk)
      have pb7 := hg7.blk pb5 hne
      have pc7 := hg7.blk pc5 hne3
      have hgt7 := hgt5.fr hg7 (fun b hb e => hp5.2.1 (e ▸ hb)) (fun b h1 _ _ e => by have : b = R := e; omega) hhi5
      have hhi7 := Nat.le_trans hhi5 hg7.size
      have hs7 := Nat.le_trans hs5 hg7.size
      have hpd : Pa w7.drew R R0 A c ws e (a1 + 1) := hp7.below (Below.refl _ _).drew
      refine wp_region_held_drew (S := fun w' => w'.cell? ⟨b3, 0, none⟩ = some (Value.int .i64 t.k) ∧ w'.cell? ⟨b3, 1, none⟩ = some (Value.string t.nm) ∧ w'.cell? ⟨b3, 2, none⟩ = some (Value.slice G1 t.ns.length g1) ∧ w'.cell? ⟨b3, 3, none⟩ = some (Value.bool t.ng) ∧ w'.cell? ⟨b3, 4, none⟩ = some (Value.slice G2 t.mg.length g2) ∧ w'.cell? ⟨b3, 5, none⟩ = some (Value.slice G3 t.ks.length g3)) (by kernel_rfl) (pc7.six) (fun hHeld => ?_)
      refine take_at 0 (by kernel_rfl) (by kernel_rfl) (by kernel_rfl) (fun _ _ d _ _ h => by cases d <;> exact h) ⟨_, rfl⟩ (by assumption) (fun o ho => ?_)
      simp only [zg1, zg3, zg4] at ho
      subst ho
      refine ⟨?_, ⟨by rfl, ?_⟩, ?_⟩
      rotate_left
      · intro w hSw
        (try dsimp only at hSw)
        (go_simp; try with_reducible rfl)
      (try simp only [Act.put, zs1, zs2, zs3])
      refine take_at 1 (by kernel_rfl) (by kernel_rfl) (by kernel_rfl) (fun _ _ d _ _ h => by cases d <;> exact h) ⟨_, rfl⟩ (by assumption) (fun o ho => ?_)
      simp only [zg1, zg2, zg3, zg4] at ho
      subst ho
      refine ⟨?_, ⟨by rfl, ?_⟩, ?_⟩
      rotate_left
      · intro w hSw
        (try dsimp only at hSw)
        (go_simp; try with_reducible rfl)
      (try simp only [Act.put, zs1, zs2, zs3])
      refine take_at 2 (by kernel_rfl) (by kernel_rfl) (by kernel_rfl) (fun _ _ d _ _ h => by cases d <;> exact h) ⟨_, rfl⟩ (by assumption) (fun o ho => ?_)
      simp only [zg1, zg2, zg3, zg4] at ho
      subst ho
      refine ⟨?_, ⟨by rfl, ?_⟩, ?_⟩
      rotate_left
      · intro w hSw
        (try dsimp only at hSw)
        (go_simp; try with_reducible rfl)
      (try simp only [Act.put, zs1, zs2, zs3])
      refine wpAnyH_ready (rs := [3]) (by kernel_rfl) (by simp) ?_
      refine ready_at 3 ⟨_, rfl⟩ (fun o ho K hK => ?_) AllReadyH.nil
      simp only [zg1, zg2, zg3, zg4] at ho
      subst ho
      go_simp
      go_at_call 172
      refine ((HOP.out m2 (by omega)).bad hpd ((hf7.below (Below.refl _ _).drew).lt H0.out) HY.out).mono ?_
      rintro ex w9 ⟨rfl, hf9⟩
      have hA : Ans w R R0 A c ws e (.bad cd p) (.panicked [stopV cd p]) w9 := by
       exact ⟨rfl, (hf7.below (Below.refl _ _).drew).step hf9 (fun _ hk => .inl hk)⟩
      exact ⟨rfl, HXB.out.symm ▸ hA⟩
     | ok u r =>
      rw [hY] at hXe
      have hXe : X = P.G e m2 (.sumL (P.nd 5 [t, u])) r := hXe
      subst hXe
      have HY := Lib.hid hY
      clear hX hY
      have hpk5 := peek_r hp1 ⟨#[45]⟩ 0 (by omega) 0 rfl
      rw [Nat.add_zero, Hc1.out] at hpk5
      have HPK5 := Lib.hid hpk5
      clear hpk5
      go_upto_region 4 with (go_at_call 110; refine HPK5.out.mono ?_; rintro ex w5 ⟨rfl, hb5⟩)
      have hp5 := hp1.below hb5
      have hf5 := hf1'.below hb5
      have pb5 := pb1.below hb5
      have pc5 := pc1.below hb5
      have hgt5 := hgt1.later hb5 hhi1
      have hhi5 := Nat.le_trans hhi1 hb5.size
      have hs5 := Nat.le_trans hs1 hb5.size
      obtain ⟨r0, r1, r2⟩ := three hp5.1
      have rf := hp5.1.free 1
      have hwr : IntKind.i64.wrap ((a1 : Int) + 1) = (a1 : Int) + 1 := wrap_nat (by omega) (by have := hp5.2.2.2.2; omega)
      obtain ⟨hp7, hg7⟩ := hp5.inc hlt
      go_upto_region 8 with (fail)
      obtain ⟨w7, hw7⟩ : ∃ W, w5.setCell ⟨R, 1, none⟩ (.int .i64 ((a1 : Int) + 1)) = W := ⟨_, rfl⟩
      rw [hw7] at hp7 hg7 ⊢
      clear hw7 r0 r1 r2 rf hwr
      have hf7 := hf5.step hg7 (fun _ hk => .inl hk)
      have pb7 := hg7.blk pb5 hne
      have pc7 := hg7.blk pc5 hne3
      have hgt7 := hgt5.fr hg7 (fun b hb e => hp5.2.1 (e ▸ hb)) (fun b h1 _ _ e => by have : b = R := e; omega) hhi5
      have hhi7 := Nat.le_trans hhi5 hg7.size
      have hs7 := Nat.le_trans hs5 hg7.size
      have hpd : Pa w7.drew R R0 A c ws e (a1 + 1) := hp7.below (Below.refl _ _).drew
      have pcd : Blk w7.drew b3 28 #[.int .i64 t.k, .string t.nm, .slice G1 t.ns.length g1, .bool t.ng, .slice G2 t.mg.length g2, .slice G3 t.ks.length g3] := pc7
      have hfd : Fr w w7.drew (fun k => k = R) := hf7.below (Below.refl _ _).drew
      obtain ⟨z0, z1, z2, z3, z4, z5⟩ := pcd.six
      go_region_with (go_at_call 172; refine ((HOP.out m2 (by omega)).ok hpd (hfd.lt H0.out) HY.out).mono ?_; rintro ex w9 ⟨v, a9, rfl, rfl, hp9, hg9, hf9⟩; obtain ⟨F1, f1, F2, f2, F3, f3, rfl⟩ := hg9.form; have pc9 := hf9.blk pcd hne3; have hal9 := below_alloc1 w9 (row2 (tc t.k t.nm G1 t.ns.length g1 t.ng G2 t.mg.length g2 G3 t.ks.length g3) (tc u.k u.nm F1 u.ns.length f1 u.ng F2 u.mg.length f2 F3 u.ks.length f3)); have HPC9 := Lib.hid (pc9.below hal9); obtain ⟨y0, y1, y2, y3, y4, y5⟩ := pc9.six; have qx := HPC9.out.open6)
      all_goals
       clear qx y0 y1 y2 y3 y4 y5 z0 z1 z2 z3 z4 z5
       have hgd : T.GotE w7.drew R0 (fun k => k = b3) t W.heap.size hi (tc t.k t.nm G1 t.ns.length g1 t.ng G2 t.mg.length g2 G3 t.ks.length g3) := hgt7.later (Below.refl _ _).drew hhi7
       have hg2 := got_two (k := 5) (hgd.fr hf9 (fun b hb e => hpd.2.1 (e ▸ hb)) (fun b h1 _ _ e => by have : b = R := e; have := HSZ.out; omega) hhi7) hhi7 (hg9.lift (E' := fun k => k = b3) (fun b h1 _ e => by have : b = b3 := e; have := pc7.lt; have h1 : w7.heap.size ≤ b := h1; omega)) (fun e => by have : w9.heap.size = b3 := e; have := pc9.lt; omega)
       have h6 := fr6 (w9.alloc (row2 (tc t.k t.nm G1 t.ns.length g1 t.ng G2 t.mg.length g2 G3 t.ks.length g3) (tc u.k u.nm F1 u.ns.length f1 u.ng F2 u.mg.length f2 F3 u.ks.length f3))) b3 (.int .i64 (5)) (.string ⟨#[]⟩) (.slice none 0 0) (.bool false) (.slice none 0 0) (.slice (some ⟨w9.heap.size, 0, none⟩) 2 2)
       have hA9 := hp9.2.2.2.1
       have hgl := (P.G_len _ _ _ _ _ _ HY.out).1
       simp only [List.length_drop] at hgl
       go_wp2_with fail
       go_roundg (ws.length + 1 - a9)
       case measure => have := HGK.out; omega
       case rel =>
        refine ⟨a9, m2, _, _, _, by have := HGK.out; omega, by omega, rfl, ?_, ?_, ?_, HPC9.out.set6 _ _ _ _ _ _, hg2.fr h6 (fun b hb e => by have : b = b3 := e; have := H0.out b hb; omega) (fun b _ _ h e => h e) (Nat.le_refl _), ?_, ?_⟩
        · exact ⟨h6.blk (hp9.below hal9).1 (fun e => hne3 e.symm), hp9.2.1, (hp9.below hal9).2.2.1.keep (.of_fr h6 (fun b hb e => by have : b = b3 := e; have := H0.out b hb; omega)), hp9.2.2.2⟩
        · exact ((hfd.step hf9 (fun _ hk => .inl hk)).below hal9).step h6 (fun b e => .inr (by have : b = b3 := e; omega))
        · exact h6.blk ((hf9.blk pb7 hne).below hal9) (fun e => hb23 e)
        · simp
        · simp only [World.size_setCell, World.size_alloc]; have := hf9.size; have h7 : w7.heap.size ≤ w9.heap.size := this; omega
    ·
     rw [Bool.not_eq_true] at c1
     by_cases c2 : P.isW ⟨#[43]⟩ (ws.drop a1) = true
     ·
      simp only [P.step, c1, c2, if_true, Bool.false_eq_true, if_false, tail_drop] at hXe
      have hlt := isW_lt c2
      have Hc1 := Lib.hid c1
      have Hc2 := Lib.hid c2
      clear c1 c2
      cases hY : P.G e m2 .oper (ws.drop (a1 + 1)) with
      | out => rw [hY] at hXe; exact absurd hXe hX
      | bad cd p =>
       rw [hY] at hXe
       have HXB := Lib.hid hXe
       clear hXe
       have HY := Lib.hid hY
       clear hX hY
       have hpk5 := peek_r hp1 ⟨#[45]⟩ 0 (by omega) 0 rfl
       rw [Nat.add_zero, Hc1.out] at hpk5
       have HPK5 := Lib.hid hpk5
       clear hpk5
       go_upto_region 5 with (go_at_call 110; refine HPK5.out.mono ?_; rintro ex w5 ⟨rfl, hb5⟩)
       have hp5 := hp1.below hb5
       have hf5 := hf1'.below hb5
       have pb5 := pb1.below hb5
       have pc5 := pc1.below hb5
       have hgt5 := hgt1.later hb5 hhi1
       have hhi5 := Nat.le_trans hhi1 hb5.size
       have hs5 := Nat.le_trans hs1 hb5.size
       have hpk6 := peek_r hp5 ⟨#[43]⟩ 0 (by omega) 0 rfl
       rw [Nat.add_zero, Hc2.out] at hpk6
       have HPK6 := Lib.hid hpk6
       clear hpk6
       go_upto_region 7 with (go_at_call 110; refine HPK6.out.mono ?_; rintro ex w6 ⟨rfl, hb6⟩)
       have hp6 := hp5.below hb6
       have hf6 := hf5.below hb6
       have pb6 := pb5.below hb6
       have pc6 := pc5.below hb6
       have hgt6 := hgt5.later hb6 hhi5
       have hhi6 := Nat.le_trans hhi5 hb6.size
       have hs6 := Nat.le_trans hs5 hb6.size
       obtain ⟨r0, r1, r2⟩ := three hp6.1
       have rf := hp6.1.free 1
       have hwr : IntKind.i64.wrap ((a1 : Int) + 1) = (a1 : Int) + 1 := wrap_nat (by omega) (by have := hp6.2.2.2.2; omega)
       obtain ⟨hp7, hg7⟩ := hp6.inc hlt
       go_upto_region 8 with (fail)
       obtain ⟨w7, hw7⟩ : ∃ W, w6.setCell ⟨R, 1, none⟩ (.int .i64 ((a1 : Int) + 1)) = W := ⟨_, rfl⟩
       rw [hw7] at hp7 hg7 ⊢
       clear hw7 r0 r1 r2 rf hwr
       have hf7 := hf6.step hg7 (fun _ hk => .inl hk)
       have pb7 := hg7.blk pb6 hne
       have pc7 := hg7.blk pc6 hne3
       have hgt7 := hgt6.fr hg7 (fun b hb e => hp6.2.1 (e ▸ hb)) (fun b h1 _ _ e => by have : b = R := e; omega) hhi6
       have hhi7 := Nat.le_trans hhi6 hg7.size
       have hs7 := Nat.le_trans hs6 hg7.size
       have hpd : Pa w7.drew R R0 A c ws e (a1 + 1) := hp7.below (Below.refl _ _).drew
       refine wp_region_held_drew (S := fun w' => w'.cell? ⟨b3, 0, none⟩ = some (Value.int .i64 t.k) ∧ w'.cell? ⟨b3, 1, none⟩ = some (Value.string t.nm) ∧ w'.cell? ⟨b3, 2, none⟩ = some (Value.slice G1 t.ns.length g1) ∧ w'.cell? ⟨b3, 3, none⟩ = some (Value.bool t.ng) ∧ w'.cell? ⟨b3, 4, none⟩ = some (Value.slice G2 t.mg.length g2) ∧ w'.cell? ⟨b3, 5, none⟩ = some (Value.slice G3 t.ks.length g3)) (by kernel_rfl) (pc7.six) (fun hHeld => ?_)
       refine take_at 0 (by kernel_rfl) (by kernel_rfl) (by kernel_rfl) (fun _ _ d _ _ h => by cases d <;> exact h) ⟨_, rfl⟩ (by assumption) (fun o ho => ?_)
       simp only [zg1, zg3, zg4] at ho
       subst ho
       refine ⟨?_, ⟨by rfl, ?_⟩, ?_⟩
       rotate_left
       · intro w hSw
         (try dsimp only at hSw)
         (go_simp; try with_reducible rfl)
       (try simp only [Act.put, zs1, zs2, zs3])
       refine take_at 1 (by kernel_rfl) (by kernel_rfl) (by kernel_rfl) (fun _ _ d _ _ h => by cases d <;> exact h) ⟨_, rfl⟩ (by assumption) (fun o ho => ?_)
       simp only [zg1, zg2, zg3, zg4] at ho
       subst ho
       refine ⟨?_, ⟨by rfl, ?_⟩, ?_⟩
       rotate_left
       · intro w hSw
         (try dsimp only at hSw)
         (go_simp; try with_reducible rfl)
       (try simp only [Act.put, zs1, zs2, zs3])
       refine take_at 2 (by kernel_rfl) (by kernel_rfl) (by kernel_rfl) (fun _ _ d _ _ h => by cases d <;> exact h) ⟨_, rfl⟩ (by assumption) (fun o ho => ?_)
       simp only [zg1, zg2, zg3, zg4] at ho
       subst ho
       refine ⟨?_, ⟨by rfl, ?_⟩, ?_⟩
       rotate_left
       · intro w hSw
         (try dsimp only at hSw)
         (go_simp; try with_reducible rfl)
       (try simp only [Act.put, zs1, zs2, zs3])
       refine wpAnyH_ready (rs := [3]) (by kernel_rfl) (by simp) ?_
       refine ready_at 3 ⟨_, rfl⟩ (fun o ho K hK => ?_) AllReadyH.nil
       simp only [zg1, zg2, zg3, zg4] at ho
       subst ho
       go_simp
       go_at_call 172
       refine ((HOP.out m2 (by omega)).bad hpd ((hf7.below (Below.refl _ _).drew).lt H0.out) HY.out).mono ?_
       rintro ex w9 ⟨rfl, hf9⟩
       have hA : Ans w R R0 A c ws e (.bad cd p) (.panicked [stopV cd p]) w9 := by
        exact ⟨rfl, (hf7.below (Below.refl _ _).drew).step hf9 (fun _ hk => .inl hk)⟩
       exact ⟨rfl, HXB.out.symm ▸ hA⟩
      | ok u r =>
       rw [hY] at hXe
       have hXe : X = P.G e m2 (.sumL (P.nd 4 [t, u])) r := hXe
       subst hXe
       have HY := Lib.hid hY
       clear hX hY
       have hpk5 := peek_r hp1 ⟨#[45]⟩ 0 (by omega) 0 rfl
       rw [Nat.add_zero, Hc1.out] at hpk5
       have HPK5 := Lib.hid hpk5
       clear hpk5
       go_upto_region 5 with (go_at_call 110; refine HPK5.out.mono ?_; rintro ex w5 ⟨rfl, hb5⟩)
       have hp5 := hp1.below hb5
       have hf5 := hf1'.below hb5
       have pb5 := pb1.below hb5
       have pc5 := pc1.below hb5
       have hgt5 := hgt1.later hb5 hhi1
       have hhi5 := Nat.le_trans hhi1 hb5.size
       have hs5 := Nat.le_trans hs1 hb5.size
       have hpk6 := peek_r hp5 ⟨#[43]⟩ 0 (by omega) 0 rfl
       rw [Nat.add_zero, Hc2.out] at hpk6
       have HPK6 := Lib.hid hpk6
       clear hpk6
       go_upto_region 7 with (go_at_call 110; refine HPK6.out.mono ?_; rintro ex w6 ⟨rfl, hb6⟩)
       have hp6 := hp5.below hb6
       have hf6 := hf5.below hb6
       have pb6 := pb5.below hb6
       have pc6 := pc5.below hb6
       have hgt6 := hgt5.later hb6 hhi5
       have hhi6 := Nat.le_trans hhi5 hb6.size
       have hs6 := Nat.le_trans hs5 hb6.size
       obtain ⟨r0, r1, r2⟩ := three hp6.1
       have rf := hp6.1.free 1
       have hwr : IntKind.i64.wrap ((a1 : Int) + 1) = (a1 : Int) + 1 := wrap_nat (by omega) (by have := hp6.2.2.2.2; omega)
       obtain ⟨hp7, hg7⟩ := hp6.inc hlt
       go_upto_region 8 with (fail)
       obtain ⟨w7, hw7⟩ : ∃ W, w6.setCell ⟨R, 1, none⟩ (.int .i64 ((a1 : Int) + 1)) = W := ⟨_, rfl⟩
       rw [hw7] at hp7 hg7 ⊢
       clear hw7 r0 r1 r2 rf hwr
       have hf7 := hf6.step hg7 (fun _ hk => .inl hk)
       have pb7 := hg7.blk pb6 hne
       have pc7 := hg7.blk pc6 hne3
       have hgt7 := hgt6.fr hg7 (fun b hb e => hp6.2.1 (e ▸ hb)) (fun b h1 _ _ e => by have : b = R := e; omega) hhi6
       have hhi7 := Nat.le_trans hhi6 hg7.size
       have hs7 := Nat.le_trans hs6 hg7.size
       have hpd : Pa w7.drew R R0 A c ws e (a1 + 1) := hp7.below (Below.refl _ _).drew
       have pcd : Blk w7.drew b3 28 #[.int .i64 t.k, .string t.nm, .slice G1 t.ns.length g1, .bool t.ng, .slice G2 t.mg.length g2, .slice G3 t.ks.length g3] := pc7
       have hfd : Fr w w7.drew (fun k => k = R) := hf7.below (Below.refl _ _).drew
       obtain ⟨z0, z1, z2, z3, z4, z5⟩ := pcd.six
       go_region_with (go_at_call 172; refine ((HOP.out m2 (by omega)).ok hpd (hfd.lt H0.out) HY.out).mono ?_; rintro ex w9 ⟨v, a9, rfl, rfl, hp9, hg9, hf9⟩; obtain ⟨F1, f1, F2, f2, F3, f3, rfl⟩ := hg9.form; have pc9 := hf9.blk pcd hne3; have hal9 := below_alloc1 w9 (row2 (tc t.k t.nm G1 t.ns.length g1 t.ng G2 t.mg.length g2 G3 t.ks.length g3) (tc u.k u.nm F1 u.ns.length f1 u.ng F2 u.mg.length f2 F3 u.ks.length f3)); have HPC9 := Lib.hid (pc9.below hal9); obtain ⟨y0, y1, y2, y3, y4, y5⟩ := pc9.six; have qx := HPC9.out.open6)
       all_goals
        clear qx y0 y1 y2 y3 y4 y5 z0 z1 z2 z3 z4 z5
        have hgd : T.GotE w7.drew R0 (fun k => k = b3) t W.heap.size hi (tc t.k t.nm G1 t.ns.length g1 t.ng G2 t.mg.length g2 G3 t.ks.length g3) := hgt7.later (Below.refl _ _).drew hhi7
        have hg2 := got_two (k := 4) (hgd.fr hf9 (fun b hb e => hpd.2.1 (e ▸ hb)) (fun b h1 _ _ e => by have : b = R := e; have := HSZ.out; omega) hhi7) hhi7 (hg9.lift (E' := fun k => k = b3) (fun b h1 _ e => by have : b = b3 := e; have := pc7.lt; have h1 : w7.heap.size ≤ b := h1; omega)) (fun e => by have : w9.heap.size = b3 := e; have := pc9.lt; omega)
        have h6 := fr6 (w9.alloc (row2 (tc t.k t.nm G1 t.ns.length g1 t.ng G2 t.mg.length g2 G3 t.ks.length g3) (tc u.k u.nm F1 u.ns.length f1 u.ng F2 u.mg.length f2 F3 u.ks.length f3))) b3 (.int .i64 (4)) (.string ⟨#[]⟩) (.slice none 0 0) (.bool false) (.slice none 0 0) (.slice (some ⟨w9.heap.size, 0, none⟩) 2 2)
        have hA9 := hp9.2.2.2.1
        have hgl := (P.G_len _ _ _ _ _ _ HY.out).1
        simp only [List.length_drop] at hgl
        go_wp2_with fail
        go_roundg (ws.length + 1 - a9)
        case measure => have := HGK.out; omega
        case rel =>
         refine ⟨a9, m2, _, _, _, by have := HGK.out; omega, by omega, rfl, ?_, ?_, ?_, HPC9.out.set6 _ _ _ _ _ _, hg2.fr h6 (fun b hb e => by have : b = b3 := e; have := H0.out b hb; omega) (fun b _ _ h e => h e) (Nat.le_refl _), ?_, ?_⟩
         · exact ⟨h6.blk (hp9.below hal9).1 (fun e => hne3 e.symm), hp9.2.1, (hp9.below hal9).2.2.1.keep (.of_fr h6 (fun b hb e => by have : b = b3 := e; have := H0.out b hb; omega)), hp9.2.2.2⟩
         · exact ((hfd.step hf9 (fun _ hk => .inl hk)).below hal9).step h6 (fun b e => .inr (by have : b = b3 := e; omega))
         · exact h6.blk ((hf9.blk pb7 hne).below hal9) (fun e => hb23 e)
         · simp
         · simp only [World.size_setCell, World.size_alloc]; have := hf9.size; have h7 : w7.heap.size ≤ w9.heap.size := this; omega
     ·
      rw [Bool.not_eq_true] at c2
      simp only [P.step, c1, c2, Bool.false_eq_true, if_false] at hXe
      have Hc1 := Lib.hid c1
      have Hc2 := Lib.hid c2
      subst hXe
      clear c1 c2 hX
      have hpk5 := peek_r hp1 ⟨#[45]⟩ 0 (by omega) 0 rfl
      rw [Nat.add_zero, Hc1.out] at hpk5
      have HPK5 := Lib.hid hpk5
      clear hpk5
      go_upto_region 5 with (go_at_call 110; refine HPK5.out.mono ?_; rintro ex w5 ⟨rfl, hb5⟩)
      have hp5 := hp1.below hb5
      have hf5 := hf1'.below hb5
      have pb5 := pb1.below hb5
      have pc5 := pc1.below hb5
      have hgt5 := hgt1.later hb5 hhi1
      have hhi5 := Nat.le_trans hhi1 hb5.size
      have hs5 := Nat.le_trans hs1 hb5.size
      have hpk6 := peek_r hp5 ⟨#[43]⟩ 0 (by omega) 0 rfl
      rw [Nat.add_zero, Hc2.out] at hpk6
      have HPK6 := Lib.hid hpk6
      clear hpk6
      go_upto_region 6 with (go_at_call 110; refine HPK6.out.mono ?_; rintro ex w6 ⟨rfl, hb6⟩)
      have hp6 := hp5.below hb6
      have hf6 := hf5.below hb6
      have pb6 := pb5.below hb6
      have pc6 := pc5.below hb6
      have hgt6 := hgt5.later hb6 hhi5
      have hhi6 := Nat.le_trans hhi5 hb6.size
      have hs6 := Nat.le_trans hs5 hb6.size
      have HPB := Lib.hid pb6
      have qx := HPB.out.open6
      obtain ⟨y0, y1, y2, y3, y4, y5⟩ := pc6.six
      go_wp2_with fail
      refine bodyPost_ret (results_tr rfl _ _ _ _ _ _ _ _ _ rfl (HPB.out.set6 _ _ _ _ _ _)) rfl ?_
      exact ans_ok (E := fun k => k = b3) (b := b2) (lo := W.heap.size) (Nat.le_of_eq HB2.out.symm) (by have := HSZ.out; omega) (.inl (by have := HB2.out; have := HSZ.out; omega)) hf6 hp6 (hgt6.wide (Nat.le_refl _) hhi6) (fr6 _ _ _ _ _ _ _ _) H0.out hRl
end
end
section
open Go.RowKit
attribute [local go_sem] Oper.semAt_some
section
variable {R0 : Nat → Prop} {A : Option Addr} {c e : Nat} {ws : List Wd}
set_option maxRecDepth 100000 in
set_option maxHeartbeats 6400000 in
theorem form_w (f : Nat) (hop : ∀ f', f' ≤ f → Rule R0 A c ws e f' .impl 67) : Rule R0 A c ws e (f + 1) .form 38 := by
 intro w R a hp h0 hX
 rw [P.G_succ] at hX ⊢
 obtain ⟨X, hXe⟩ : ∃ X, P.step e (P.G e f) .form (ws.drop a) = X := ⟨_, rfl⟩
 rw [hXe] at hX ⊢
 obtain ⟨W, hW, pb, hbW⟩ := made_blk w tz 28
 obtain ⟨b2, hb2⟩ : ∃ b, b = w.heap.size := ⟨_, rfl⟩
 have hRl : R < w.heap.size := hp.1.lt
 have hsz : W.heap.size = w.heap.size + 1 := by rw [hW]; simp
 have hp0 := hp.below hbW
 have hf0 : Fr w W (fun k => k = R) := Fr.of_below hbW
 have hne : ¬ b2 = R := by omega
 have pb0 : Blk W b2 28 tz := by rw [hb2]; exact pb
 have HW := Lib.hid hW
 have H0 := Lib.hid h0
 have HB2 := Lib.hid hb2
 have HSZ := Lib.hid hsz
 clear hp hbW pb hW h0 hsz hb2
 have HOP := Lib.hid hop
 clear hop
 have hs0 : W.heap.size ≤ W.heap.size := Nat.le_refl _
 have hXe : (P.G e f .impl (ws.drop a)).bind (fun t r => P.G e f (.formL t) r) = X := hXe
 cases hY : P.G e f .impl (ws.drop a) with
 | out => rw [hY] at hXe; exact absurd hXe.symm hX
 | bad cd p =>
  rw [hY] at hXe
  have hXe : P.Rd.bad cd p = X := hXe
  subst hXe
  have HY := Lib.hid hY
  clear hX hY
  go_enter Tryz.func38, Tryz.ntmps38
  go_upto_region 1 with (fail)
  rw [← HW.out, ← HB2.out]
  go_wp2_with (go_at_call 67; refine ((HOP.out f (Nat.le_refl _)).bad hp0 (hf0.lt H0.out) HY.out).mono ?_; rintro ex w9 ⟨rfl, hf9⟩)
  exact ⟨rfl, rfl, hf0.step hf9 (fun _ hk => .inl hk)⟩
 | ok u r =>
  rw [hY] at hXe
  have hXe : P.G e f (.formL u) r = X := hXe
  have HY := Lib.hid hY
  clear hY
  go_enter Tryz.func38, Tryz.ntmps38
  go_upto_region 1 with (fail)
  rw [← HW.out, ← HB2.out]
  go_upto_region 2 with (go_at_call 67; refine ((HOP.out f (Nat.le_refl _)).ok hp0 (hf0.lt H0.out) HY.out).mono ?_; rintro ex w3 ⟨v, a3, rfl, rfl, hp3, hgt, hg3⟩; obtain ⟨F1, f1, F2, f2, F3, f3, rfl⟩ := hgt.form)
  obtain ⟨w4, hw4, pc4, hb4⟩ := made_blk w3 #[.int .i64 u.k, .string u.nm, .slice F1 u.ns.length f1, .bool u.ng, .slice F2 u.mg.length f2, .slice F3 u.ks.length f3] 28
  obtain ⟨b3, hb3⟩ : ∃ b, b = w3.heap.size := ⟨_, rfl⟩
  rw [← hw4, ← hb3]
  rw [← hb3] at pc4
  have hp4 := hp3.below hb4
  have hf4 := (hf0.step hg3 (fun _ hk => .inl hk)).below hb4
  have pb4 := (hg3.blk pb0 hne).below hb4
  have hgt4 := (hgt.later hb4 (Nat.le_refl _)).lift (E' := fun k => k = b3) (fun b _ h e => by have : b = b3 := e; omega)
  have hs3 := hg3.size
  have hs4 := hb4.size
  have hne3 : ¬ b3 = R := by have := HSZ.out; omega
  have hb23 : ¬ b2 = b3 := by have := HSZ.out; have := HB2.out; omega
  have hwb3 : w.heap.size < b3 := by have := HSZ.out; omega
  have HXE := Lib.hid hXe
  have hWR : R < W.heap.size := by have := HSZ.out; omega
  have hhi : w3.heap.size ≤ w4.heap.size := hs4
  have hA4 := hp4.2.2.2.1
  clear hw4 hb3 hXe hp3 hg3 hb4 hgt HY
  go_wp2_with fail
  go_loopg [6] (ws.length + 1 - a3) (fun gk _ wr => ∃ (a1 m1 : Nat) (t : T) (v : Kc) (hi : Nat), gk + a1 = ws.length + 1 ∧ m1 ≤ f ∧ X = P.G e m1 (.formL t) (ws.drop a1) ∧ Pa wr R R0 A c ws e a1 ∧ Fr w wr (fun k => k = R) ∧ Blk wr b2 28 tz ∧ Blk wr b3 28 (k6 v) ∧ T.GotE wr R0 (fun k => k = b3) t W.heap.size hi v ∧ hi ≤ wr.heap.size ∧ W.heap.size ≤ wr.heap.size)
  case atStart => exact ⟨a3, f, u, _, _, by omega, Nat.le_refl _, HXE.out.symm, hp4, hf4, pb4, pc4, hgt4, hhi, by omega⟩
  case round =>
   clear hp4 hf4 pb4 pc4 hgt4 hhi hA4 HXE hs3 hs4
   obtain ⟨a1, m1, t, v, hi, hgk, hm1, hXe, hp1, hf1', pb1, pc1, hgt1, hhi1, hs1⟩ := hrel
   obtain ⟨G1, g1, G2, g2, G3, g3, rfl⟩ := hgt1.form
   have HGK := Lib.hid hgk
   clear hgk
   cases m1 with
   | zero => exact absurd hXe hX
   | succ m2 =>
    rw [P.G_succ] at hXe
    by_cases c1 : P.isW ⟨#[105, 102, 102]⟩ (ws.drop a1) = true
    ·
     simp only [P.step, c1, if_true, tail_drop] at hXe
     have hlt := isW_lt c1
     have Hc1 := Lib.hid c1
     clear c1
     cases hY : P.G e m2 .impl (ws.drop (a1 + 1)) with
     | out => rw [hY] at hXe; exact absurd hXe hX
     | bad cd p =>
      rw [hY] at hXe
      have HXB := Lib.hid hXe
      clear hXe
      have HY := Lib.hid hY
      clear hX hY
      go_upto_region 3 with (go_at_call 68; refine (is_yes hp1 _ Hc1.out).mono ?_; rintro ex w7 ⟨rfl, hp7, hg7⟩)
      have hf7 := hf1'.step hg7 (fun _ hk => .inl hk)
      have pb7 := hg7.blk pb1 hne
      have pc7 := hg7.blk pc1 hne3
      have hgt7 := hgt1.fr hg7 (fun b hb e => hp1.2.1 (e ▸ hb)) (fun b h1 _ _ e => by have : b = R := e; omega) hhi1
      have hhi7 := Nat.le_trans hhi1 hg7.size
      have hs7 := Nat.le_trans hs1 hg7.size
      have hpd : Pa w7.drew R R0 A c ws e (a1 + 1) := hp7.below (Below.refl _ _).drew
      refine wp_region_held_drew (S := fun w' => w'.cell? ⟨b3, 0, none⟩ = some (Value.int .i64 t.k) ∧ w'.cell? ⟨b3, 1, none⟩ = some (Value.string t.nm) ∧ w'.cell? ⟨b3, 2, none⟩ = some (Value.slice G1 t.ns.length g1) ∧ w'.cell? ⟨b3, 3, none⟩ = some (Value.bool t.ng) ∧ w'.cell? ⟨b3, 4, none⟩ = some (Value.slice G2 t.mg.length g2) ∧ w'.cell? ⟨b3, 5, none⟩ = some (Value.slice G3 t.ks.length g3)) (by kernel_rfl) (pc7.six) (fun hHeld => ?_)
      refine take_at 0 (by kernel_rfl) (by kernel_rfl) (by kernel_rfl) (fun _ _ d _ _ h => by cases d <;> exact h) ⟨_, rfl⟩ (by assumption) (fun o ho => ?_)
      simp only [zg1, zg3, zg4] at ho
      subst ho
      refine ⟨?_, ⟨by rfl, ?_⟩, ?_⟩
      rotate_left
      · intro w hSw
        (try dsimp only at hSw)
        (go_simp; try with_reducible rfl)
      (try simp only [Act.put, zs1, zs2, zs3])
      refine take_at 1 (by kernel_rfl) (by kernel_rfl) (by kernel_rfl) (fun _ _ d _ _ h => by cases d <;> exact h) ⟨_, rfl⟩ (by assumption) (fun o ho => ?_)
      simp only [zg1, zg2, zg3, zg4] at ho
      subst ho
      refine ⟨?_, ⟨by rfl, ?_⟩, ?_⟩
      rotate_left
      · intro w hSw
        (try dsimp only at hSw)
        (go_simp; try with_reducible rfl)
      (try simp only [Act.put, zs1, zs2, zs3])
      refine wpAnyH_ready (rs := [2]) (by kernel_rfl) (by simp) ?_
      refine ready_at 2 ⟨_, rfl⟩ (fun o ho K hK => ?_) AllReadyH.nil
      simp only [zg1, zg2, zg3, zg4] at ho
      subst ho
      go_simp
      go_at_call 67
      refine ((HOP.out m2 (by omega)).bad hpd ((hf7.below (Below.refl _ _).drew).lt H0.out) HY.out).mono ?_
      rintro ex w9 ⟨rfl, hf9⟩
      have hA : Ans w R R0 A c ws e (.bad cd p) (.panicked [stopV cd p]) w9 := by
       exact ⟨rfl, (hf7.below (Below.refl _ _).drew).step hf9 (fun _ hk => .inl hk)⟩
      exact ⟨rfl, HXB.out.symm ▸ hA⟩
     | ok u r =>
      rw [hY] at hXe
      have hXe : X = P.G e m2 (.formL (P.nd 20 [t, u])) r := hXe
      subst hXe
      have HY := Lib.hid hY
      clear hX hY
      go_upto_region 3 with (go_at_call 68; refine (is_yes hp1 _ Hc1.out).mono ?_; rintro ex w7 ⟨rfl, hp7, hg7⟩)
      have hf7 := hf1'.step hg7 (fun _ hk => .inl hk)
      have pb7 := hg7.blk pb1 hne
      have pc7 := hg7.blk pc1 hne3
      have hgt7 := hgt1.fr hg7 (fun b hb e => hp1.2.1 (e ▸ hb)) (fun b h1 _ _ e => by have : b = R := e; omega) hhi1
      have hhi7 := Nat.le_trans hhi1 hg7.size
      have hs7 := Nat.le_trans hs1 hg7.size
      have hpd : Pa w7.drew R R0 A c ws e (a1 + 1) := hp7.below (Below.refl _ _).drew
      have pcd : Blk w7.drew b3 28 #[.int .i64 t.k, .string t.nm, .slice G1 t.ns.length g1, .bool t.ng, .slice G2 t.mg.length g2, .slice G3 t.ks.length g3] := pc7
      have hfd : Fr w w7.drew (fun k => k = R) := hf7.below (Below.refl _ _).drew
      obtain ⟨z0, z1, z2, z3, z4, z5⟩ := pcd.six
      go_region_with (go_at_call 67; refine ((HOP.out m2 (by omega)).ok hpd (hfd.lt H0.out) HY.out).mono ?_; rintro ex w9 ⟨v, a9, rfl, rfl, hp9, hg9, hf9⟩; obtain ⟨F1, f1, F2, f2, F3, f3, rfl⟩ := hg9.form; have pc9 := hf9.blk pcd hne3; have hal9 := below_alloc1 w9 (row2 (tc t.k t.nm G1 t.ns.length g1 t.ng G2 t.mg.length g2 G3 t.ks.length g3) (tc u.k u.nm F1 u.ns.length f1 u.ng F2 u.mg.length f2 F3 u.ks.length f3)); have HPC9 := Lib.hid (pc9.below hal9); obtain ⟨y0, y1, y2, y3, y4, y5⟩ := pc9.six; have qx := HPC9.out.open6)
      all_goals
       clear qx y0 y1 y2 y3 y4 y5 z0 z1 z2 z3 z4 z5
       have hgd : T.GotE w7.drew R0 (fun k => k = b3) t W.heap.size hi (tc t.k t.nm G1 t.ns.length g1 t.ng G2 t.mg.length g2 G3 t.ks.length g3) := hgt7.later (Below.refl _ _).drew hhi7
       have hg2 := got_two (k := 20) (hgd.fr hf9 (fun b hb e => hpd.2.1 (e ▸ hb)) (fun b h1 _ _ e => by have : b = R := e; have := HSZ.out; omega) hhi7) hhi7 (hg9.lift (E' := fun k => k = b3) (fun b h1 _ e => by have : b = b3 := e; have := pc7.lt; have h1 : w7.heap.size ≤ b := h1; omega)) (fun e => by have : w9.heap.size = b3 := e; have := pc9.lt; omega)
       have h6 := fr6 (w9.alloc (row2 (tc t.k t.nm G1 t.ns.length g1 t.ng G2 t.mg.length g2 G3 t.ks.length g3) (tc u.k u.nm F1 u.ns.length f1 u.ng F2 u.mg.length f2 F3 u.ks.length f3))) b3 (.int .i64 (20)) (.string ⟨#[]⟩) (.slice none 0 0) (.bool false) (.slice none 0 0) (.slice (some ⟨w9.heap.size, 0, none⟩) 2 2)
       have hA9 := hp9.2.2.2.1
       have hgl := (P.G_len _ _ _ _ _ _ HY.out).1
       simp only [List.length_drop] at hgl
       go_wp2_with fail
       go_roundg (ws.length + 1 - a9)
       case measure => have := HGK.out; omega
       case rel =>
        refine ⟨a9, m2, _, _, _, by have := HGK.out; omega, by omega, rfl, ?_, ?_, ?_, HPC9.out.set6 _ _ _ _ _ _, hg2.fr h6 (fun b hb e => by have : b = b3 := e; have := H0.out b hb; omega) (fun b _ _ h e => h e) (Nat.le_refl _), ?_, ?_⟩
        · exact ⟨h6.blk (hp9.below hal9).1 (fun e => hne3 e.symm), hp9.2.1, (hp9.below hal9).2.2.1.keep (.of_fr h6 (fun b hb e => by have : b = b3 := e; have := H0.out b hb; omega)), hp9.2.2.2⟩
        · exact ((hfd.step hf9 (fun _ hk => .inl hk)).below hal9).step h6 (fun b e => .inr (by have : b = b3 := e; omega))
        · exact h6.blk ((hf9.blk pb7 hne).below hal9) (fun e => hb23 e)
        · simp
        · simp only [World.size_setCell, World.size_alloc]; have := hf9.size; have h7 : w7.heap.size ≤ w9.heap.size := this; omega
    ·
     rw [Bool.not_eq_true] at c1
     simp only [P.step, c1, Bool.false_eq_true, if_false] at hXe
     have Hc1 := Lib.hid c1
     subst hXe
     clear c1 hX
     go_upto_region 4 with (go_at_call 68; refine (is_no hp1 _ Hc1.out).mono ?_; rintro ex w5 ⟨rfl, hb5⟩)
     have hp5 := hp1.below hb5
     have hf5 := hf1'.below hb5
     have pb5 := pb1.below hb5
     have pc5 := pc1.below hb5
     have hgt5 := hgt1.later hb5 hhi1
     have hhi5 := Nat.le_trans hhi1 hb5.size
     have hs5 := Nat.le_trans hs1 hb5.size
     have HPB := Lib.hid pb5
     have qx := HPB.out.open6
     obtain ⟨y0, y1, y2, y3, y4, y5⟩ := pc5.six
     go_wp2_with fail
     refine bodyPost_ret (results_tr rfl _ _ _ _ _ _ _ _ _ rfl (HPB.out.set6 _ _ _ _ _ _)) rfl ?_
     exact ans_ok (E := fun k => k = b3) (b := b2) (lo := W.heap.size) (Nat.le_of_eq HB2.out.symm) (by have := HSZ.out; omega) (.inl (by have := HB2.out; have := HSZ.out; omega)) hf5 hp5 (hgt5.wide (Nat.le_refl _) hhi5) (fr6 _ _ _ _ _ _ _ _) H0.out hRl
end
end
end Go.Proofs.YthiadenmljbdaaaGreatDoor

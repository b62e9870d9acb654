/-
  s: the parts QImpl of the proof.
-/
import Derived.Test.YthiadenmljbdaaaGreatDoorB29s
import Derived.Deep.Cut
section
namespace Go.Proofs.YthiadenmljbdaaaGreatDoor
open Go.RowKit
attribute [local go_sem] Oper.semAt_some
section
variable {R0 : Nat → Prop} {A : Option Addr} {c e : Nat} {ws : List Wd}
set_option maxRecDepth 100000 in
set_option maxHeartbeats 6400000 in
theorem clo_w (f : Nat) (hop : ∀ f', f' ≤ f → Rule R0 A c ws e f' .notted 109) : CloR R0 A c ws e (f + 1) := by
  intro w R a Bx hp h0 hx hX
  obtain ⟨W, hW, pb, hbW⟩ := made_blk w tz 28
  obtain ⟨b2, hb2⟩ : ∃ b, b = w.heap.size := ⟨_, rfl⟩
  have hRl : R < w.heap.size := hp.1.lt
  have hsz : W.heap.size = w.heap.size + 1 := by rw [hW]; simp
  have hp0 := hp.below hbW
  have hf0 : Fr w W (fun k => k = R) := Fr.of_below hbW
  have hne : ¬ b2 = R := by omega
  have pb0 : Blk W b2 28 tz := by rw [hb2]; exact pb
  have xc : W.cell? ⟨Bx, 0, none⟩ = some (.pointer (some ⟨R, 0, none⟩)) := (hx.below hbW).cell 0
  have hrow := row_and f hop W R a hp0 (hf0.lt h0) hX
  have hmf : ∀ (fn : Fn) (first cap : Array Value) (w : World), (Instr.makeFunc fn first cap).run Tryz.prog w = .ok (.func fn first cap) w := fun _ _ _ _ => rfl
  have HW := Lib.hid hW
  have H0 := Lib.hid h0
  have HB2 := Lib.hid hb2
  have HSZ := Lib.hid hsz
  clear hp hbW pb hW h0 hsz hb2 hop
  cases hY : P.G e (f + 1) .anded (ws.drop a) with
  | out => exact absurd hY hX
  | bad cd p =>
    rw [hY] at hrow
    have HR := Lib.hid hrow
    clear hrow hX hY
    go_enter Tryz.func108, Tryz.ntmps108
    go_upto_region 1 with (fail)
    rw [← HW.out, ← HB2.out]
    go_wp2_with (go_at_call 107; refine HR.out.mono ?_; rintro ex w9 ⟨rfl, hf9⟩)
    exact ⟨rfl, rfl, hf0.step hf9 (fun _ hk => .inl hk)⟩
  | ok u r =>
    rw [hY] at hrow
    have HR := Lib.hid hrow
    clear hrow hX hY
    go_enter Tryz.func108, Tryz.ntmps108
    go_upto_region 1 with (fail)
    rw [← HW.out, ← HB2.out]
    go_wp2_with (go_at_call 107; refine HR.out.mono ?_; rintro ex w9 ⟨v, a9, rfl, rfl, hp9, hg9, hf9⟩; obtain ⟨F1, f1, F2, f2, F3, f3, rfl⟩ := hg9.form; have HPB9 := Lib.hid (hf9.blk pb0 hne); obtain ⟨⟨q0, q1, q2, q3, q4, q5⟩, x0, x1, x2, x3, x4, x5⟩ := HPB9.out.open6)
    refine bodyPost_ret (results_tr rfl _ _ _ _ _ _ _ _ _ rfl (HPB9.out.set6 _ _ _ _ _ _)) rfl ?_
    exact ans_sub (b := b2) (Nat.le_of_eq HB2.out.symm) (by have := HB2.out; have := HSZ.out; omega) (hf0.step hf9 (fun _ hk => .inl hk)) hp9 hg9 (fr6 _ _ _ _ _ _ _ _) H0.out hRl
set_option maxRecDepth 100000 in
set_option maxHeartbeats 6400000 in
theorem impl_w (f : Nat) (hclo : ∀ f', f' ≤ f → CloR R0 A c ws e f') (him : Rule R0 A c ws e f .impl 67) : Rule R0 A c ws e (f + 1) .impl 67 := by
  intro w R a hp h0 hX
  rw [P.G_succ] at hX ⊢
  obtain ⟨X, hXe⟩ : ∃ X, P.step e (P.G e f) .impl (ws.drop a) = X := ⟨_, rfl⟩
  rw [hXe] at hX ⊢
  have hXe : (P.G e f .ored (ws.drop a)).bind (fun t r => if P.isW ⟨#[105, 109, 112, 108, 105, 101, 115]⟩ r = true then (P.G e f .impl r.tail).bind (fun u r' => .ok (P.nd 19 [t, u]) r') else .ok t r) = X := hXe
  obtain ⟨W1, hW1, px, hbW1⟩ := made_blk w #[.pointer (some ⟨R, 0, none⟩)] 64
  obtain ⟨W, hW, pb, hbW2⟩ := made_blk W1 tz 28
  have hsz1 : W1.heap.size = w.heap.size + 1 := by rw [hW1]; simp
  have hsz : W.heap.size = w.heap.size + 2 := by rw [hW]; simp [hsz1]
  obtain ⟨Bx, hBx⟩ : ∃ b, b = w.heap.size := ⟨_, rfl⟩
  obtain ⟨b2, hb2⟩ : ∃ b, b = w.heap.size + 1 := ⟨_, rfl⟩
  have hbW := below_on hbW1 hbW2
  have hRl : R < w.heap.size := hp.1.lt
  have hp0 := hp.below hbW
  have hf0 : Fr w W (fun k => k = R) := Fr.of_below hbW
  have hne : ¬ b2 = R := by omega
  have hxR : ¬ Bx = R := by omega
  have pb0 : Blk W b2 28 tz := by rw [hb2, ← hsz1]; exact pb
  have px0 : Blk W Bx 64 #[.pointer (some ⟨R, 0, none⟩)] := by rw [hBx]; exact px.below hbW2
  have xc : W.cell? ⟨Bx, 0, none⟩ = some (.pointer (some ⟨R, 0, none⟩)) := px0.cell 0
  have hmf : ∀ (fn : Fn) (first cap : Array Value) (w : World), (Instr.makeFunc fn first cap).run Tryz.prog w = .ok (.func fn first cap) w := fun _ _ _ _ => rfl
  have hWW : W = (w.alloc (.cells #[.pointer (some ⟨R, 0, none⟩)] 64)).alloc (.cells tz 28) := by rw [hW, hW1]
  have HW := Lib.hid hWW
  have H0 := Lib.hid h0
  have HB2 := Lib.hid hb2
  have HBX := Lib.hid hBx
  have HSZ := Lib.hid hsz
  have hWR : R < W.heap.size := by omega
  have HIM := Lib.hid him
  clear hp hbW pb hW h0 hsz hb2 hbW1 hbW2 hW1 hWW px hsz1 hBx him
  cases f with
  | zero => exact absurd hXe.symm hX
  | succ f =>
  have hrow := fun (h : P.G e (f + 1) .ored (ws.drop a) ≠ .out) => row_or f (fun f' h => hclo f' (by omega)) W R a Bx hp0 (hf0.lt H0.out) px0 hxR h
  clear hclo
  cases hY : P.G e (f + 1) .ored (ws.drop a) with
  | out => rw [hY] at hXe; exact absurd hXe.symm hX
  | bad cd p =>
    have hrow := hrow (by rw [hY]; intro h; cases h)
    rw [hY] at hXe hrow
    have hXe : P.Rd.bad cd p = X := hXe
    subst hXe
    have HR := Lib.hid hrow
    clear hX hY hrow
    go_enter Tryz.func67, Tryz.ntmps67
    go_upto_region 1 with (fail)
    rw [← HW.out]
    (try rw [← HB2.out])
    rw [← HBX.out]
    go_wp2_with (go_at_call 107; refine HR.out.mono ?_; rintro ex w9 ⟨rfl, hf9⟩)
    exact ⟨rfl, rfl, hf0.step hf9 (fun _ hk => .inl hk)⟩
  | ok t r =>
    have hrow := hrow (by rw [hY]; intro h; cases h)
    rw [hY] at hXe hrow
    have hXe : (if P.isW ⟨#[105, 109, 112, 108, 105, 101, 115]⟩ r = true then (P.G e (f + 1) .impl r.tail).bind (fun u r' => .ok (P.nd 19 [t, u]) r') else .ok t r) = X := hXe
    have HR := Lib.hid hrow
    clear hY hrow
    go_enter Tryz.func67, Tryz.ntmps67
    go_upto_region 1 with (fail)
    rw [← HW.out]
    (try rw [← HB2.out])
    rw [← HBX.out]
    go_upto_region 2 with (go_at_call 107; refine HR.out.mono ?_; rintro ex w3 ⟨v, a3, rfl, rfl, hp3, hgt, hg3⟩; obtain ⟨G1, g1, G2, g2, G3, g3, rfl⟩ := hgt.form)
    obtain ⟨w4, hw4, pc4, hb4⟩ := made_blk w3 #[.int .i64 t.k, .string t.nm, .slice G1 t.ns.length g1, .bool t.ng, .slice G2 t.mg.length g2, .slice G3 t.ks.length g3] 28
    obtain ⟨b3, hb3⟩ : ∃ b, b = w3.heap.size := ⟨_, rfl⟩
    rw [← hw4, ← hb3]
    rw [← hb3] at pc4
    have hp4 := hp3.below hb4
    have hf4 := (hf0.step hg3 (fun _ hk => .inl hk)).below hb4
    have pb4 := (hg3.blk pb0 hne).below hb4
    have px4 := (hg3.blk px0 hxR).below hb4
    have hgt4 := (hgt.later hb4 (Nat.le_refl _)).lift (E' := fun k => k = b3) (fun b _ h e => by have : b = b3 := e; omega)
    have hs3 := hg3.size
    have hs4 := hb4.size
    have hne3 : ¬ b3 = R := by have := HSZ.out; omega
    have hb23 : ¬ b2 = b3 := by have := HSZ.out; have := HB2.out; omega
    have hbx3 : ¬ Bx = b3 := by have := HSZ.out; have := HBX.out; omega
    have hwb3 : w.heap.size < b3 := by have := HSZ.out; omega
    have hhi : w3.heap.size ≤ w4.heap.size := hs4
    have HXE := Lib.hid hXe
    clear hw4 hb3 hXe hp3 hb4 hgt xc
    have xc4 : w4.cell? ⟨Bx, 0, none⟩ = some (.pointer (some ⟨R, 0, none⟩)) := px4.cell 0
    by_cases c1 : P.isW ⟨#[105, 109, 112, 108, 105, 101, 115]⟩ (ws.drop a3) = true
    · have hXe := HXE.out
      rw [if_pos c1, tail_drop] at hXe
      have Hc1 := Lib.hid c1
      clear c1 HXE
      cases hY : P.G e (f + 1) .impl (ws.drop (a3 + 1)) with
      | out => rw [hY] at hXe; exact absurd hXe.symm hX
      | bad cd p =>
        rw [hY] at hXe
        have hXe : P.Rd.bad cd p = X := hXe
        subst hXe
        have HY := Lib.hid hY
        clear hX hY
        go_upto_region 3 with (go_at_call 68; refine (is_yes hp4 _ Hc1.out).mono ?_; rintro ex w7 ⟨rfl, hp7, hg7⟩)
        have hf7 := hf4.step hg7 (fun _ hk => .inl hk)
        have pc7 := hg7.blk pc4 hne3
        have px7 := hg7.blk px4 hxR
        have hpd : Pa w7.drew R R0 A c ws e (a3 + 1) := hp7.below (Below.refl _ _).drew
        refine wp_region_held_drew (S := fun w' => (w'.cell? ⟨b3, 0, none⟩ = some (Value.int .i64 t.k) ∧ w'.cell? ⟨b3, 1, none⟩ = some (Value.string t.nm) ∧ w'.cell? ⟨b3, 2, none⟩ = some (Value.slice G1 t.ns.length g1) ∧ w'.cell? ⟨b3, 3, none⟩ = some (Value.bool t.ng) ∧ w'.cell? ⟨b3, 4, none⟩ = some (Value.slice G2 t.mg.length g2) ∧ w'.cell? ⟨b3, 5, none⟩ = some (Value.slice G3 t.ks.length g3)) ∧ w'.cell? ⟨Bx, 0, none⟩ = some (.pointer (some ⟨R, 0, none⟩))) (by kernel_rfl) ⟨pc7.six, px7.cell 0⟩ (fun hHeld => ?_)
        refine take_at 0 (by kernel_rfl) (by kernel_rfl) (by kernel_rfl) (fun _ _ d _ _ h => by cases d <;> exact h) ⟨_, rfl⟩ (by assumption) (fun o ho => ?_)
        simp only [List.getElem?_toArray, List.getElem?_cons_zero, Option.some.injEq] at ho
        subst ho
        refine ⟨?_, ⟨by rfl, ?_⟩, ?_⟩
        rotate_left
        · intro w hSw
          (try dsimp only at hSw)
          (go_simp; try with_reducible rfl)
        (try simp only [Act.put, List.setIfInBounds_toArray, List.set_cons_zero, List.set_cons_succ])
        refine take_at 1 (by kernel_rfl) (by kernel_rfl) (by kernel_rfl) (fun _ _ d _ _ h => by cases d <;> exact h) ⟨_, rfl⟩ (by assumption) (fun o ho => ?_)
        simp only [List.getElem?_toArray, List.getElem?_cons_succ, List.getElem?_cons_zero, Option.some.injEq] at ho
        subst ho
        refine ⟨?_, ⟨by rfl, ?_⟩, ?_⟩
        rotate_left
        · intro w hSw
          (try dsimp only at hSw)
          (go_simp; try with_reducible rfl)
        (try simp only [Act.put, List.setIfInBounds_toArray, List.set_cons_zero, List.set_cons_succ])
        refine wpAnyH_ready (rs := [2]) (by kernel_rfl) (by simp) ?_
        refine ready_at 2 ⟨_, rfl⟩ (fun o ho K hK => ?_) AllReadyH.nil
        simp only [List.getElem?_toArray, List.getElem?_cons_succ, List.getElem?_cons_zero, Option.some.injEq] at ho
        subst ho
        go_simp
        go_at_call 67
        refine (HIM.out.bad hpd ((hf7.below (Below.refl _ _).drew).lt H0.out) HY.out).mono ?_
        rintro ex w9 ⟨rfl, hf9⟩
        exact ⟨rfl, rfl, (hf7.below (Below.refl _ _).drew).step hf9 (fun _ hk => .inl hk)⟩
      | ok u r =>
        rw [hY] at hXe
        have hXe : P.Rd.ok (P.nd 19 [t, u]) r = X := hXe
        subst hXe
        have HY := Lib.hid hY
        clear hX hY
        go_upto_region 3 with (go_at_call 68; refine (is_yes hp4 _ Hc1.out).mono ?_; rintro ex w7 ⟨rfl, hp7, hg7⟩)
        have hf7 := hf4.step hg7 (fun _ hk => .inl hk)
        have pb7 := hg7.blk pb4 hne
        have pc7 := hg7.blk pc4 hne3
        have px7 := hg7.blk px4 hxR
        have hgt7 := hgt4.fr hg7 (fun b hb e => hp4.2.1 (e ▸ hb)) (fun b h1 _ _ e => by have : b = R := e; omega) hhi
        have hhi7 := Nat.le_trans hhi hg7.size
        have hpd : Pa w7.drew R R0 A c ws e (a3 + 1) := hp7.below (Below.refl _ _).drew
        have pcd : Blk w7.drew b3 28 #[.int .i64 t.k, .string t.nm, .slice G1 t.ns.length g1, .bool t.ng, .slice G2 t.mg.length g2, .slice G3 t.ks.length g3] := pc7
        have pxd : Blk w7.drew Bx 64 #[.pointer (some ⟨R, 0, none⟩)] := px7
        have pbd : Blk w7.drew b2 28 tz := pb7
        have hfd : Fr w w7.drew (fun k => k = R) := hf7.below (Below.refl _ _).drew
        obtain ⟨z0, z1, z2, z3, z4, z5⟩ := pcd.six
        have xcd : w7.drew.cell? ⟨Bx, 0, none⟩ = some (.pointer (some ⟨R, 0, none⟩)) := pxd.cell 0
        go_region_with (go_at_call 67; refine (HIM.out.ok hpd (hfd.lt H0.out) HY.out).mono ?_; rintro ex w9 ⟨v, a9, rfl, rfl, hp9, hg9, hf9⟩; obtain ⟨F1, f1, F2, f2, F3, f3, rfl⟩ := hg9.form; have pc9 := hf9.blk pcd hne3; have hal9 := below_alloc1 w9 (row2 (tc t.k t.nm G1 t.ns.length g1 t.ng G2 t.mg.length g2 G3 t.ks.length g3) (tc u.k u.nm F1 u.ns.length f1 u.ng F2 u.mg.length f2 F3 u.ks.length f3)); have HPC9 := Lib.hid (pc9.below hal9); obtain ⟨y0, y1, y2, y3, y4, y5⟩ := pc9.six; obtain ⟨⟨q0, q1, q2, q3, q4, q5⟩, x0, x1, x2, x3, x4, x5⟩ := HPC9.out.open6)
        all_goals
          clear x0 x1 x2 x3 x4 x5 y0 y1 y2 y3 y4 y5 z0 z1 z2 z3 z4 z5 q0 q1 q2 q3 q4 q5 xcd
          have hgd : T.GotE w7.drew R0 (fun k => k = b3) t W.heap.size w3.heap.size (tc t.k t.nm G1 t.ns.length g1 t.ng G2 t.mg.length g2 G3 t.ks.length g3) := hgt7.later (Below.refl _ _).drew hhi7
          have hg2 := got_two (k := 19) (hgd.fr hf9 (fun b hb e => hpd.2.1 (e ▸ hb)) (fun b h1 _ _ e => by have : b = R := e; have := HSZ.out; omega) hhi7) hhi7 (hg9.lift (E' := fun k => k = b3) (fun b h1 _ e => by have : b = b3 := e; have := pc7.lt; have h1 : w7.heap.size ≤ b := h1; omega)) (fun e => by have : w9.heap.size = b3 := e; have := pc9.lt; omega)
          have h6 := fr6 (w9.alloc (row2 (tc t.k t.nm G1 t.ns.length g1 t.ng G2 t.mg.length g2 G3 t.ks.length g3) (tc u.k u.nm F1 u.ns.length f1 u.ng F2 u.mg.length f2 F3 u.ks.length f3))) b3 (.int .i64 19) (.string ⟨#[]⟩) (.slice none 0 0) (.bool false) (.slice none 0 0) (.slice (some ⟨w9.heap.size, 0, none⟩) 2 2)
          have hg6 := hg2.fr h6 (fun b hb e => by have : b = b3 := e; have := H0.out b hb; omega) (fun b _ _ h e => h e) (Nat.le_refl _)
          have pc6 := HPC9.out.set6 (.int .i64 19) (.string ⟨#[]⟩) (.slice none 0 0) (.bool false) (.slice none 0 0) (.slice (some ⟨w9.heap.size, 0, none⟩) 2 2)
          have hpa : Pa ((((((((w9.alloc (row2 (tc t.k t.nm G1 t.ns.length g1 t.ng G2 t.mg.length g2 G3 t.ks.length g3) (tc u.k u.nm F1 u.ns.length f1 u.ng F2 u.mg.length f2 F3 u.ks.length f3))).setCell ⟨b3, 0, none⟩ (.int .i64 19)).setCell ⟨b3, 1, none⟩ (.string ⟨#[]⟩)).setCell ⟨b3, 2, none⟩ (.slice none 0 0)).setCell ⟨b3, 3, none⟩ (.bool false)).setCell ⟨b3, 4, none⟩ (.slice none 0 0)).setCell ⟨b3, 5, none⟩ (.slice (some ⟨w9.heap.size, 0, none⟩) 2 2))) R R0 A c ws e a9 := ⟨h6.blk (hp9.below hal9).1 (fun e => hne3 e.symm), hp9.2.1, (hp9.below hal9).2.2.1.keep (.of_fr h6 (fun b hb e => by have : b = b3 := e; have := H0.out b hb; omega)), hp9.2.2.2⟩
          have pb6 := h6.blk ((hf9.blk pbd hne).below hal9) (fun e => hb23 e)
          have hfa := ((hfd.step hf9 (fun _ hk => .inl hk)).below hal9).step h6 (fun b e => .inr (by have : b = b3 := e; omega))
          go_upto_region 4 with (fail)
          obtain ⟨g9, hg9'⟩ : ∃ g, w9.heap.size = g := ⟨_, rfl⟩
          rw [hg9'] at hg6 pc6 hpa pb6 hfa ⊢
          obtain ⟨Wx, hWx⟩ : ∃ Wx, (((((((w9.alloc (row2 (tc t.k t.nm G1 t.ns.length g1 t.ng G2 t.mg.length g2 G3 t.ks.length g3) (tc u.k u.nm F1 u.ns.length f1 u.ng F2 u.mg.length f2 F3 u.ks.length f3))).setCell ⟨b3, 0, none⟩ (.int .i64 19)).setCell ⟨b3, 1, none⟩ (.string ⟨#[]⟩)).setCell ⟨b3, 2, none⟩ (.slice none 0 0)).setCell ⟨b3, 3, none⟩ (.bool false)).setCell ⟨b3, 4, none⟩ (.slice none 0 0)).setCell ⟨b3, 5, none⟩ (.slice (some ⟨g9, 0, none⟩) 2 2)) = Wx := ⟨_, rfl⟩
          have hszx : (w9.alloc (row2 (tc t.k t.nm G1 t.ns.length g1 t.ng G2 t.mg.length g2 G3 t.ks.length g3) (tc u.k u.nm F1 u.ns.length f1 u.ng F2 u.mg.length f2 F3 u.ks.length f3))).heap.size = Wx.heap.size := by rw [← hWx]; simp
          rw [hWx] at hg6 pc6 hpa pb6 hfa ⊢
          clear hWx h6 hg2
          have HPB6 := Lib.hid pb6
          obtain ⟨⟨q0, q1, q2, q3, q4, q5⟩, x0, x1, x2, x3, x4, x5⟩ := HPB6.out.open6
          obtain ⟨y0, y1, y2, y3, y4, y5⟩ := pc6.six
          clear pb6 hg9'
          have hhx := hg6.le
          go_wp2_with fail
          refine bodyPost_ret (results_tr rfl _ _ _ _ _ _ _ _ _ rfl (HPB6.out.set6 _ _ _ _ _ _)) rfl ?_
          exact ans_ok (E := fun k => k = b3) (b := b2) (lo := W.heap.size) (by have := HB2.out; omega) (by have := HSZ.out; omega) (.inl (by have := HB2.out; have := HSZ.out; omega)) hfa hpa (hg6.wide (Nat.le_refl _) (by rw [← hszx]; exact Nat.le_refl _)) (fr6 _ _ _ _ _ _ _ _) H0.out hRl
    · rw [Bool.not_eq_true] at c1
      have hXe := HXE.out
      rw [c1, if_neg (by decide)] at hXe
      subst hXe
      have Hc1 := Lib.hid c1
      clear c1 HXE hX
      go_upto_region 4 with (go_at_call 68; refine (is_no hp4 _ Hc1.out).mono ?_; rintro ex w5 ⟨rfl, hb5⟩)
      have hp5 := hp4.below hb5
      have hf5 := hf4.below hb5
      have HPB5 := Lib.hid (pb4.below hb5)
      have pc5 := pc4.below hb5
      have hgt5 := hgt4.later hb5 hhi
      have hs5 := hb5.size
      obtain ⟨⟨q0, q1, q2, q3, q4, q5⟩, x0, x1, x2, x3, x4, x5⟩ := HPB5.out.open6
      obtain ⟨y0, y1, y2, y3, y4, y5⟩ := pc5.six
      go_wp2_with fail
      refine bodyPost_ret (results_tr rfl _ _ _ _ _ _ _ _ _ rfl (HPB5.out.set6 _ _ _ _ _ _)) rfl ?_
      exact ans_ok (E := fun k => k = b3) (b := b2) (lo := W.heap.size) (by have := HB2.out; omega) (by have := HSZ.out; omega) (.inl (by have := HB2.out; have := HSZ.out; omega)) hf5 hp5 (hgt5.wide (Nat.le_refl _) (Nat.le_trans hhi hs5)) (fr6 _ _ _ _ _ _ _ _) H0.out hRl
end
end Go.Proofs.YthiadenmljbdaaaGreatDoor
end

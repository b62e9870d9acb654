/-
  l: the parts QPrim.
-/
import Derived.Test.YthiadenmljbdaaaGreatDoorB14l
import Derived.Test.YthiadenmljbdaaaGreatDoorB7l
import Derived.Deep.Cut
import Derived.Deep.RegionHeld3
import Derived.BigQuiet
namespace Go.Proofs.YthiadenmljbdaaaGreatDoor
section
open Go.RowKit
attribute [local go_sem] Oper.semAt_some
section
variable {R0 : Nat → Prop} {A : Option Addr} {c e : Nat} {ws : List Wd}
set_option maxRecDepth 100000 in
set_option maxHeartbeats 12800000 in
theorem prim_w (f : Nat) (hfm : Rule R0 A c ws e f .form 38) (hsm : Rule R0 A c ws e f .sum 164) : Rule R0 A c ws e (f + 1) .prim 144 := by
 intro w R a hp h0 hX
 rw [P.G_succ] at hX ⊢
 obtain ⟨X, hXe⟩ : ∃ X, P.step e (P.G e f) .prim (ws.drop a) = X := ⟨_, rfl⟩
 rw [hXe] at hX ⊢
 obtain ⟨W, hW, pb, hbW⟩ := made_blk w tz 28
 obtain ⟨b2, hb2⟩ : ∃ b, b = w.heap.size := ⟨_, rfl⟩
 have hRl : R < w.heap.size := hp.1.lt
 have hsz : W.heap.size = w.heap.size + 1 := by rw [hW]; simp
 have hp0 := hp.below hbW
 have hf0 : Fr w W (fun k => k = R) := Fr.of_below hbW
 have hne : ¬ b2 = R := by omega
 have pb0 : Blk W b2 28 tz := by rw [hb2]; exact pb
 have HW := Lib.hid hW
 have H0 := Lib.hid h0
 have HB2 := Lib.hid hb2
 have HSZ := Lib.hid hsz
 clear hp hbW pb hW h0 hsz hb2
 have HFM := Lib.hid hfm
 have HSM := Lib.hid hsm
 clear hfm hsm
 have hs0 : W.heap.size ≤ W.heap.size := Nat.le_refl _
 by_cases h1 : P.isW ⟨#[116, 114, 117, 101]⟩ (ws.drop a) = true
 ·
  simp only [P.step, h1, if_true, tail_drop] at hXe
  subst hXe
  have H1 := Lib.hid h1
  clear h1 hX
  go_enter Tryz.func144, Tryz.ntmps144
  go_upto_region 1 with (fail)
  rw [← HW.out, ← HB2.out]
  go_upto_region 2 with (go_at_call 68; refine (is_yes hp0 _ H1.out).mono ?_; rintro ex w1 ⟨rfl, hp1, hg1⟩)
  have hf1 := hf0.step hg1 (fun _ hk => .inl hk)
  have pb1 := hg1.blk pb0 hne
  have hs1 : W.heap.size ≤ w1.heap.size := by have := hg1.size; omega
  have HPB := Lib.hid pb1
  obtain ⟨⟨q0, q1, q2, q3, q4, q5⟩, x0, x1, x2, x3, x4, x5⟩ := HPB.out.open6
  go_wp2_with fail
  refine bodyPost_ret (results_tr rfl _ _ _ _ _ _ _ _ _ rfl (HPB.out.set6 _ _ _ _ _ _)) rfl ?_
  exact ans_leaf (b := b2) (Nat.le_of_eq HB2.out.symm) (by have := HB2.out; have := HSZ.out; have := hs1; omega) hf1 hp1 (Lm.nil _ _) (fr6 _ _ _ _ _ _ _ _) H0.out hRl
 ·
  rw [Bool.not_eq_true] at h1
  have H1 := Lib.hid h1
  by_cases h2 : P.isW ⟨#[102, 97, 108, 115, 101]⟩ (ws.drop a) = true
  ·
   simp only [P.step, h1, h2, if_true, Bool.false_eq_true, if_false, tail_drop] at hXe
   subst hXe
   have H2 := Lib.hid h2
   clear h1 h2 hX
   go_enter Tryz.func144, Tryz.ntmps144
   go_upto_region 1 with (fail)
   rw [← HW.out, ← HB2.out]
   go_upto_region 3 with (go_at_call 68; refine (is_no hp0 _ H1.out).mono ?_; rintro ex w1 ⟨rfl, hb1⟩)
   have hp1 := hp0.below hb1
   have hf1 := hf0.below hb1
   have pb1 := pb0.below hb1
   go_upto_region 4 with (go_at_call 68; refine (is_yes hp1 _ H2.out).mono ?_; rintro ex w2 ⟨rfl, hp2, hg2⟩)
   have hf2 := hf1.step hg2 (fun _ hk => .inl hk)
   have pb2 := hg2.blk pb1 hne
   have hs2 : W.heap.size ≤ w2.heap.size := by have := hb1.size; have := hg2.size; omega
   have HPB := Lib.hid pb2
   obtain ⟨⟨q0, q1, q2, q3, q4, q5⟩, x0, x1, x2, x3, x4, x5⟩ := HPB.out.open6
   go_wp2_with fail
   refine bodyPost_ret (results_tr rfl _ _ _ _ _ _ _ _ _ rfl (HPB.out.set6 _ _ _ _ _ _)) rfl ?_
   exact ans_leaf (b := b2) (Nat.le_of_eq HB2.out.symm) (by have := HB2.out; have := HSZ.out; have := hs2; omega) hf2 hp2 (Lm.nil _ _) (fr6 _ _ _ _ _ _ _ _) H0.out hRl
  ·
   rw [Bool.not_eq_true] at h2
   have H2 := Lib.hid h2
   by_cases h3 : P.isW ⟨#[40]⟩ (ws.drop a) = true
   ·
    simp only [P.step, h1, h2, h3, if_true, Bool.false_eq_true, if_false, tail_drop] at hXe
    have H3 := Lib.hid h3
    clear h1 h2 h3
    cases hY : P.G e f .form (ws.drop (a + 1)) with
    | out => rw [hY] at hXe; exact absurd hXe.symm hX
    | bad cd p =>
     rw [hY] at hXe
     have hXe : P.Rd.bad cd p = X := hXe
     subst hXe
     have HY := Lib.hid hY
     clear hX hY
     go_enter Tryz.func144, Tryz.ntmps144
     go_upto_region 1 with (fail)
     rw [← HW.out, ← HB2.out]
     go_upto_region 3 with (go_at_call 68; refine (is_no hp0 _ H1.out).mono ?_; rintro ex w1 ⟨rfl, hb1⟩)
     have hp1 := hp0.below hb1
     have hf1 := hf0.below hb1
     have pb1 := pb0.below hb1
     go_upto_region 5 with (go_at_call 68; refine (is_no hp1 _ H2.out).mono ?_; rintro ex w2 ⟨rfl, hb2⟩)
     have hp2 := hp1.below hb2
     have hf2 := hf1.below hb2
     have pb2 := pb1.below hb2
     go_upto_region 6 with (go_at_call 68; refine (is_yes hp2 _ H3.out).mono ?_; rintro ex w3 ⟨rfl, hp3, hg3⟩)
     have hf3 := hf2.step hg3 (fun _ hk => .inl hk)
     have pb3 := hg3.blk pb2 hne
     have hs3 : W.heap.size ≤ w3.heap.size := by have := hb1.size; have := hb2.size; have := hg3.size; omega
     go_wp2_with (go_at_call 38; refine (HFM.out.bad hp3 (hf3.lt H0.out) HY.out).mono ?_; rintro ex w9 ⟨rfl, hf9⟩)
     exact ⟨rfl, rfl, hf3.step hf9 (fun _ hk => .inl hk)⟩
    | ok u r =>
     rw [hY] at hXe
     have hXe : (if P.isW ⟨#[41]⟩ r = true then P.Rd.ok u r.tail else P.wrong e r) = X := hXe
     have HY := Lib.hid hY
     clear hX hY
     go_enter Tryz.func144, Tryz.ntmps144
     go_upto_region 1 with (fail)
     rw [← HW.out, ← HB2.out]
     go_upto_region 3 with (go_at_call 68; refine (is_no hp0 _ H1.out).mono ?_; rintro ex w1 ⟨rfl, hb1⟩)
     have hp1 := hp0.below hb1
     have hf1 := hf0.below hb1
     have pb1 := pb0.below hb1
     go_upto_region 5 with (go_at_call 68; refine (is_no hp1 _ H2.out).mono ?_; rintro ex w2 ⟨rfl, hb2⟩)
     have hp2 := hp1.below hb2
     have hf2 := hf1.below hb2
     have pb2 := pb1.below hb2
     go_upto_region 6 with (go_at_call 68; refine (is_yes hp2 _ H3.out).mono ?_; rintro ex w3 ⟨rfl, hp3, hg3⟩)
     have hf3 := hf2.step hg3 (fun _ hk => .inl hk)
     have pb3 := hg3.blk pb2 hne
     have hs3 : W.heap.size ≤ w3.heap.size := by have := hb1.size; have := hb2.size; have := hg3.size; omega
     go_upto_region 7 with (go_at_call 38; refine (HFM.out.ok hp3 (hf3.lt H0.out) HY.out).mono ?_; rintro ex w6 ⟨v, a9, rfl, rfl, hp6, hgt, hg6⟩; obtain ⟨F1, f1, F2, f2, F3, f3, rfl⟩ := hgt.form)
     have hf6 := hf3.step hg6 (fun _ hk => .inl hk)
     have pb6 := hg6.blk pb3 hne
     obtain ⟨w7, hw7, pc7, hb7⟩ := made_blk w6 #[.int .i64 u.k, .string u.nm, .slice F1 u.ns.length f1, .bool u.ng, .slice F2 u.mg.length f2, .slice F3 u.ks.length f3] 28
     obtain ⟨b3, hb3⟩ : ∃ b, b = w6.heap.size := ⟨_, rfl⟩
     rw [← hw7, ← hb3]
     rw [← hb3] at pc7
     have hp7 := hp6.below hb7
     have hf7 := hf6.below hb7
     have pb7 := pb6.below hb7
     have hgt7 := hgt.later hb7 (Nat.le_refl _)
     have hs6 := hg6.size
     have hs7 := hb7.size
     have hne3 : ¬ b3 = R := by have := hg3.size; have := HSZ.out; omega
     have HB3 := Lib.hid hb3
     have HXE := Lib.hid hXe
     clear hw7 hb3 hXe
     by_cases h5 : P.isW ⟨#[41]⟩ (ws.drop a9) = true
     ·
      have hXe := HXE.out
      rw [if_pos h5, tail_drop] at hXe
      subst hXe
      go_upto_region 8 with (go_at_call 163; refine (must_yes hp7 _ h5).mono ?_; rintro ex w8 ⟨rfl, hp8, hg8⟩)
      have hf8 := hf7.step hg8 (fun _ hk => .inl hk)
      have HPB8 := Lib.hid (hg8.blk pb7 hne)
      have pc8 := hg8.blk pc7 hne3
      obtain ⟨⟨q0, q1, q2, q3, q4, q5⟩, x0, x1, x2, x3, x4, x5⟩ := HPB8.out.open6
      obtain ⟨y0, y1, y2, y3, y4, y5⟩ := pc8.six
      clear h5
      go_wp2_with fail
      refine bodyPost_ret (results_tr rfl _ _ _ _ _ _ _ _ _ rfl (HPB8.out.set6 _ _ _ _ _ _)) rfl ?_
      exact ans_sub (b := b2) (Nat.le_of_eq HB2.out.symm) (by have := HB2.out; have := HSZ.out; have := hs3; omega) hf8 hp8 ((hgt7.fr hg8 (fun b hb e => by have := H0.out b hb; have : b = R := e; exact hp8.2.1 (this ▸ hb)) (fun b h1 h2 _ e => by have : b = R := e; have := hs3; have := HSZ.out; omega) hs7).wide (Nat.le_refl _) (Nat.le_trans hs7 hg8.size)) (fr6 _ _ _ _ _ _ _ _) H0.out hRl
     · rw [Bool.not_eq_true] at h5
       have hXe := HXE.out
       rw [h5, if_neg (by decide)] at hXe
       subst hXe
       go_wp2_with (go_at_call 163; refine (must_no hp7 _ h5).mono ?_; rintro ex w8 ⟨cd, p, hwr, rfl, hb8⟩)
       exact ⟨rfl, rfl, hf7.below hb8⟩
   ·
    rw [Bool.not_eq_true] at h3
    have H3 := Lib.hid h3
    by_cases h4 : (P.kd (ws.drop a) == 1 && P.isW ⟨#[100, 105, 118, 105, 100, 101, 115]⟩ (ws.drop (a + 1))) = true
    ·
     have h40 : P.kd (ws.drop a) = 1 := by simp at h4; exact h4.1
     have h41 : P.isW ⟨#[100, 105, 118, 105, 100, 101, 115]⟩ (ws.drop (a + 1)) = true := by simp at h4; exact h4.2
     have hlt := kd_lt h40 (by decide)
     have hlt1 := isW_lt h41
     simp only [P.step, h1, h2, h3, tail_drop, h4, if_true, Bool.false_eq_true, if_false, P.mg_drop ws a hlt, P.pl_drop ws a hlt] at hXe
     obtain ⟨⟨t1, t2, t3, t4⟩, ht⟩ : ∃ t, ws.getD a wd0 = t := ⟨_, rfl⟩
     have hnx := fun (w' : World) (h : Pa w' R R0 A c ws e a) => next_r h hlt
     have hkr := fun (w' : World) (h : Pa w' R R0 A c ws e a) => kind_r h
     have hpk := fun (w' : World) (h : Pa w' R R0 A c ws e a) => peek_r h ⟨#[100, 105, 118, 105, 100, 101, 115]⟩ 1 (by omega) 1 rfl
     rw [ht] at hnx hXe
     dsimp only at hnx hXe
     rw [h40] at hkr
     rw [h41] at hpk
     have HNX := Lib.hid hnx
     have HKR := Lib.hid hkr
     have HPK := Lib.hid hpk
     clear h1 h2 h3 h4 h40 h41 hnx hkr hpk ht
     by_cases h5 : t3.length = 0
     ·
      have h50 : t3.isEmpty = true := by simp; exact List.eq_nil_of_length_eq_zero h5
      rw [if_pos h50] at hXe
      subst hXe
      have hbr : bareB false t3 = true := by simp [bareB, h5]
      have HBR := Lib.hid hbr
      clear h5 h50 hX hbr
      go_enter Tryz.func144, Tryz.ntmps144
      go_upto_region 1 with (fail)
      rw [← HW.out, ← HB2.out]
      go_upto_region 3 with (go_at_call 68; refine (is_no hp0 _ H1.out).mono ?_; rintro ex w1 ⟨rfl, hb1⟩)
      have hp1 := hp0.below hb1
      have hf1 := hf0.below hb1
      have pb1 := pb0.below hb1
      go_upto_region 5 with (go_at_call 68; refine (is_no hp1 _ H2.out).mono ?_; rintro ex w2 ⟨rfl, hb2⟩)
      have hp2 := hp1.below hb2
      have hf2 := hf1.below hb2
      have pb2 := pb1.below hb2
      go_upto_region 9 with (go_at_call 68; refine (is_no hp2 _ H3.out).mono ?_; rintro ex w3 ⟨rfl, hb3⟩)
      have hp3 := hp2.below hb3
      have hf3 := hf2.below hb3
      have pb3 := pb2.below hb3
      have hs3 : W.heap.size ≤ w3.heap.size := by have := hb1.size; have := hb2.size; have := hb3.size; omega
      go_upto_region 10 with (first
       | (go_at_call 161; refine (HKR.out _ hp3).mono ?_; rintro ex w4 ⟨rfl, hb4⟩; have hp4 := hp3.below hb4)
       | (go_at_call 110; refine (HPK.out _ hp4).mono ?_; rintro ex w5 ⟨rfl, hb5⟩))
      have hf4 := hf3.below hb4
      have pb4 := pb3.below hb4
      have hp5 := hp4.below hb5
      have hf5 := hf4.below hb5
      have pb5 := pb4.below hb5
      go_upto_region 11 with (go_at_call 162; refine (HNX.out _ hp5).mono ?_; rintro ex w6 ⟨B, d, rfl, hlm6, hp6, hg6⟩)
      have hf6 := hf5.step hg6 (fun _ hk => .inl hk)
      have pb6 := hg6.blk pb5 hne
      obtain ⟨w7, hw7, pn7, hb7⟩ := made_blk w6 #[.int .i64 (t1 : Nat), .string t2, .bool false, .slice B t3.length d, .int .i64 (t4 : Nat)] 98
      obtain ⟨b4, hb4'⟩ : ∃ b, b = w6.heap.size := ⟨_, rfl⟩
      rw [← hw7, ← hb4']
      rw [← hb4'] at pn7
      have hp7 := hp6.below hb7
      have hf7 := hf6.below hb7
      have pb7 := pb6.below hb7
      have hlm7 := hlm6.keep (.of_below hb7)
      have hs4 := hb4.size
      have hs5 := hb5.size
      have hs6 := hg6.size
      have hs7 := hb7.size
      have hne4 : ¬ b4 = R := by have := HSZ.out; omega
      have hb24 : ¬ b2 = b4 := by have := HSZ.out; have := HB2.out; omega
      have HB4 := Lib.hid hb4'
      obtain ⟨_, n0, n1, n2, n3, n4⟩ := pn7.facts
      clear hw7 hb4'
      go_wp2_with (go_at_call 85; refine (bare_x _ false _ _ _).mono ?_; rw [HBR.out]; rintro ex w8 ⟨rfl, hb8⟩; obtain ⟨_, m0, m1, m2, m3, m4⟩ := (pn7.below hb8).facts)
      exact ⟨rfl, rfl, hf7.below hb8⟩
     ·
      have h50 : t3.isEmpty = false := by rw [List.isEmpty_eq_false_iff]; exact fun h => h5 (by rw [h]; rfl)
      rw [h50, if_neg (by decide)] at hXe
      have hbr : bareB false t3 = false := by unfold bareB; simp; exact fun h => h5 (by rw [h]; rfl)
      have HBR := Lib.hid hbr
      clear h5 h50 hbr
      cases hY : P.G e f .sum (ws.drop (a + 1 + 1)) with
      | out => rw [hY] at hXe; exact absurd hXe.symm hX
      | bad cd p =>
       rw [hY] at hXe
       have hXe : P.Rd.bad cd p = X := hXe
       subst hXe
       have HY := Lib.hid hY
       clear hX hY
       go_enter Tryz.func144, Tryz.ntmps144
       go_upto_region 1 with (fail)
       rw [← HW.out, ← HB2.out]
       go_upto_region 3 with (go_at_call 68; refine (is_no hp0 _ H1.out).mono ?_; rintro ex w1 ⟨rfl, hb1⟩)
       have hp1 := hp0.below hb1
       have hf1 := hf0.below hb1
       have pb1 := pb0.below hb1
       go_upto_region 5 with (go_at_call 68; refine (is_no hp1 _ H2.out).mono ?_; rintro ex w2 ⟨rfl, hb2⟩)
       have hp2 := hp1.below hb2
       have hf2 := hf1.below hb2
       have pb2 := pb1.below hb2
       go_upto_region 9 with (go_at_call 68; refine (is_no hp2 _ H3.out).mono ?_; rintro ex w3 ⟨rfl, hb3⟩)
       have hp3 := hp2.below hb3
       have hf3 := hf2.below hb3
       have pb3 := pb2.below hb3
       have hs3 : W.heap.size ≤ w3.heap.size := by have := hb1.size; have := hb2.size; have := hb3.size; omega
       go_upto_region 10 with (first
        | (go_at_call 161; refine (HKR.out _ hp3).mono ?_; rintro ex w4 ⟨rfl, hb4⟩; have hp4 := hp3.below hb4)
        | (go_at_call 110; refine (HPK.out _ hp4).mono ?_; rintro ex w5 ⟨rfl, hb5⟩))
       have hf4 := hf3.below hb4
       have pb4 := pb3.below hb4
       have hp5 := hp4.below hb5
       have hf5 := hf4.below hb5
       have pb5 := pb4.below hb5
       go_upto_region 11 with (go_at_call 162; refine (HNX.out _ hp5).mono ?_; rintro ex w6 ⟨B, d, rfl, hlm6, hp6, hg6⟩)
       have hf6 := hf5.step hg6 (fun _ hk => .inl hk)
       have pb6 := hg6.blk pb5 hne
       obtain ⟨w7, hw7, pn7, hb7⟩ := made_blk w6 #[.int .i64 (t1 : Nat), .string t2, .bool false, .slice B t3.length d, .int .i64 (t4 : Nat)] 98
       obtain ⟨b4, hb4'⟩ : ∃ b, b = w6.heap.size := ⟨_, rfl⟩
       rw [← hw7, ← hb4']
       rw [← hb4'] at pn7
       have hp7 := hp6.below hb7
       have hf7 := hf6.below hb7
       have pb7 := pb6.below hb7
       have hlm7 := hlm6.keep (.of_below hb7)
       have hs4 := hb4.size
       have hs5 := hb5.size
       have hs6 := hg6.size
       have hs7 := hb7.size
       have hne4 : ¬ b4 = R := by have := HSZ.out; omega
       have hb24 : ¬ b2 = b4 := by have := HSZ.out; have := HB2.out; omega
       have HB4 := Lib.hid hb4'
       obtain ⟨_, n0, n1, n2, n3, n4⟩ := pn7.facts
       clear hw7 hb4'
       go_upto_region 13 with (go_at_call 85; refine (bare_x _ false _ _ _).mono ?_; rw [HBR.out]; rintro ex w8 ⟨rfl, hb8⟩)
       have hp8 := hp7.below hb8
       have hf8 := hf7.below hb8
       have pb8 := pb7.below hb8
       have pn8 := pn7.below hb8
       have hlm8 := hlm7.keep (.of_below hb8)
       have hs8 := hb8.size
       obtain ⟨r0, r1, r2⟩ := three hp8.1
       have rf := hp8.1.free 1
       have hwr : IntKind.i64.wrap (((a + 1 : Nat) : Int) + 1) = ((a + 1 : Nat) : Int) + 1 := wrap_nat (by omega) (by have := hp8.2.2.2.2; omega)
       obtain ⟨hp9, hg9⟩ := hp8.inc hlt1
       obtain ⟨a1', ha1'⟩ : ∃ q, a + 1 = q := ⟨_, rfl⟩
       rw [ha1'] at r1 hwr hp9 hg9
       clear n0 n1 n2 n3 n4
       go_upto_region 14 with (fail)
       obtain ⟨wr, hwr'⟩ : ∃ W, w8.setCell ⟨R, 1, none⟩ (.int .i64 ((a1' : Int) + 1)) = W := ⟨_, rfl⟩
       rw [hwr'] at hp9 hg9 ⊢
       clear hwr' r0 r1 r2 rf hwr
       have hpr := hp9
       have hfr := hf8.step hg9 (fun _ hk => .inl hk)
       have pbr := hg9.blk pb8 hne
       have pnr := hg9.blk pn8 hne4
       have hlmr := hlm8.keep (.of_fr hg9 (fun b hb e => hp8.2.1 (e ▸ hb)))
       have hsr := hg9.size
       rw [← ha1'] at hpr
       clear hp9 hg9
       have pnd : ∀ w', Fr wr w' (fun k => k = R ∨ k = b2) → Blk w' b4 98 #[.int .i64 (t1 : Nat), .string t2, .bool false, .slice B t3.length d, .int .i64 (t4 : Nat)] := fun w' h => h.blk pnr (by rintro (h | h); exact hne4 h; exact hb24 h.symm)
       have hS : ∀ w', Fr wr w' (fun k => k = R ∨ k = b2) → ((fun w' => w'.cell? ⟨b4, 2, none⟩ = some (.bool false) ∧ w'.cell? ⟨b4, 3, none⟩ = some (.slice B t3.length d))) w' := fun w' h => ⟨(pnd w' h).cell 2, (pnd w' h).cell 3⟩
       have hfd0 : Fr wr wr.drew (fun k => k = R ∨ k = b2) := Fr.of_below (Below.refl _ _).drew
       have hpd : Pa wr.drew R R0 _ c ws e (a + 1 + 1) := hpr.below (Below.refl _ _).drew
       have pbd : Blk wr.drew b2 28 tz := pbr
       refine wp_region_held_drew (S := fun w' => w'.cell? ⟨b4, 2, none⟩ = some (.bool false) ∧ w'.cell? ⟨b4, 3, none⟩ = some (.slice B t3.length d)) (by kernel_rfl) (hS _ hfd0) (fun hHeld => ?_)
       refine take_at 0 (by kernel_rfl) (by kernel_rfl) (by kernel_rfl) (fun _ _ d _ _ h => by cases d <;> exact h) ⟨_, rfl⟩ (by assumption) (fun o ho => ?_)
       simp only [zg1, zg3, zg4] at ho
       subst ho
       refine ⟨?_, ⟨by rfl, ?_⟩, ?_⟩
       rotate_left
       · intro w hSw
         (try dsimp only at hSw)
         (go_simp; try with_reducible rfl)
       (try simp only [Act.put, zs1, zs2, zs3])
       refine take_at 1 (by kernel_rfl) (by kernel_rfl) (by kernel_rfl) (fun _ _ d _ _ h => by cases d <;> exact h) ⟨_, rfl⟩ (by assumption) (fun o ho => ?_)
       simp only [zg1, zg2, zg3, zg4] at ho
       subst ho
       refine ⟨?_, ⟨by rfl, ?_⟩, ?_⟩
       rotate_left
       · intro w hSw
         (try dsimp only at hSw)
         (go_simp; try with_reducible rfl)
       (try simp only [Act.put, zs1, zs2, zs3])
       refine take_at 2 (by kernel_rfl) (by kernel_rfl) (by kernel_rfl) (fun _ _ d _ _ h => by cases d <;> exact h) ⟨_, rfl⟩ (by assumption) (fun o ho => ?_)
       simp only [zg1, zg2, zg3, zg4] at ho
       subst ho
       refine ⟨?_, ⟨by rfl, ?_⟩, ?_⟩
       rotate_left
       · intro w hSw
         (try dsimp only at hSw)
         (go_simp; try with_reducible rfl)
       (try simp only [Act.put, zs1, zs2, zs3])
       refine wpAnyH_ready (rs := [3]) (by kernel_rfl) (by simp) ?_
       refine ready_at 3 ⟨_, rfl⟩ (fun o ho K hK => ?_) AllReadyH.nil
       simp only [zg1, zg2, zg3, zg4] at ho
       subst ho
       go_simp
       go_at_call 164
       refine (HSM.out.bad hpd ((hfr.below (Below.refl _ _).drew).lt H0.out) HY.out).mono ?_
       rintro ex w9 ⟨rfl, hf9⟩
       exact ⟨rfl, rfl, (hfr.below (Below.refl _ _).drew).step hf9 (fun _ hk => .inl hk)⟩
      | ok u r =>
       rw [hY] at hXe
       have hXe : P.Rd.ok (.node 15 ⟨#[]⟩ [] false t3 [u]) r = X := hXe
       subst hXe
       have HY := Lib.hid hY
       clear hX hY
       go_enter Tryz.func144, Tryz.ntmps144
       go_upto_region 1 with (fail)
       rw [← HW.out, ← HB2.out]
       go_upto_region 3 with (go_at_call 68; refine (is_no hp0 _ H1.out).mono ?_; rintro ex w1 ⟨rfl, hb1⟩)
       have hp1 := hp0.below hb1
       have hf1 := hf0.below hb1
       have pb1 := pb0.below hb1
       go_upto_region 5 with (go_at_call 68; refine (is_no hp1 _ H2.out).mono ?_; rintro ex w2 ⟨rfl, hb2⟩)
       have hp2 := hp1.below hb2
       have hf2 := hf1.below hb2
       have pb2 := pb1.below hb2
       go_upto_region 9 with (go_at_call 68; refine (is_no hp2 _ H3.out).mono ?_; rintro ex w3 ⟨rfl, hb3⟩)
       have hp3 := hp2.below hb3
       have hf3 := hf2.below hb3
       have pb3 := pb2.below hb3
       have hs3 : W.heap.size ≤ w3.heap.size := by have := hb1.size; have := hb2.size; have := hb3.size; omega
       go_upto_region 10 with (first
        | (go_at_call 161; refine (HKR.out _ hp3).mono ?_; rintro ex w4 ⟨rfl, hb4⟩; have hp4 := hp3.below hb4)
        | (go_at_call 110; refine (HPK.out _ hp4).mono ?_; rintro ex w5 ⟨rfl, hb5⟩))
       have hf4 := hf3.below hb4
       have pb4 := pb3.below hb4
       have hp5 := hp4.below hb5
       have hf5 := hf4.below hb5
       have pb5 := pb4.below hb5
       go_upto_region 11 with (go_at_call 162; refine (HNX.out _ hp5).mono ?_; rintro ex w6 ⟨B, d, rfl, hlm6, hp6, hg6⟩)
       have hf6 := hf5.step hg6 (fun _ hk => .inl hk)
       have pb6 := hg6.blk pb5 hne
       obtain ⟨w7, hw7, pn7, hb7⟩ := made_blk w6 #[.int .i64 (t1 : Nat), .string t2, .bool false, .slice B t3.length d, .int .i64 (t4 : Nat)] 98
       obtain ⟨b4, hb4'⟩ : ∃ b, b = w6.heap.size := ⟨_, rfl⟩
       rw [← hw7, ← hb4']
       rw [← hb4'] at pn7
       have hp7 := hp6.below hb7
       have hf7 := hf6.below hb7
       have pb7 := pb6.below hb7
       have hlm7 := hlm6.keep (.of_below hb7)
       have hs4 := hb4.size
       have hs5 := hb5.size
       have hs6 := hg6.size
       have hs7 := hb7.size
       have hne4 : ¬ b4 = R := by have := HSZ.out; omega
       have hb24 : ¬ b2 = b4 := by have := HSZ.out; have := HB2.out; omega
       have HB4 := Lib.hid hb4'
       obtain ⟨_, n0, n1, n2, n3, n4⟩ := pn7.facts
       clear hw7 hb4'
       go_upto_region 13 with (go_at_call 85; refine (bare_x _ false _ _ _).mono ?_; rw [HBR.out]; rintro ex w8 ⟨rfl, hb8⟩)
       have hp8 := hp7.below hb8
       have hf8 := hf7.below hb8
       have pb8 := pb7.below hb8
       have pn8 := pn7.below hb8
       have hlm8 := hlm7.keep (.of_below hb8)
       have hs8 := hb8.size
       obtain ⟨r0, r1, r2⟩ := three hp8.1
       have rf := hp8.1.free 1
       have hwr : IntKind.i64.wrap (((a + 1 : Nat) : Int) + 1) = ((a + 1 : Nat) : Int) + 1 := wrap_nat (by omega) (by have := hp8.2.2.2.2; omega)
       obtain ⟨hp9, hg9⟩ := hp8.inc hlt1
       obtain ⟨a1', ha1'⟩ : ∃ q, a + 1 = q := ⟨_, rfl⟩
       rw [ha1'] at r1 hwr hp9 hg9
       clear n0 n1 n2 n3 n4
       go_upto_region 14 with (fail)
       obtain ⟨wr, hwr'⟩ : ∃ W, w8.setCell ⟨R, 1, none⟩ (.int .i64 ((a1' : Int) + 1)) = W := ⟨_, rfl⟩
       rw [hwr'] at hp9 hg9 ⊢
       clear hwr' r0 r1 r2 rf hwr
       have hpr := hp9
       have hfr := hf8.step hg9 (fun _ hk => .inl hk)
       have pbr := hg9.blk pb8 hne
       have pnr := hg9.blk pn8 hne4
       have hlmr := hlm8.keep (.of_fr hg9 (fun b hb e => hp8.2.1 (e ▸ hb)))
       have hsr := hg9.size
       rw [← ha1'] at hpr
       clear hp9 hg9
       have pnd : ∀ w', Fr wr w' (fun k => k = R ∨ k = b2) → Blk w' b4 98 #[.int .i64 (t1 : Nat), .string t2, .bool false, .slice B t3.length d, .int .i64 (t4 : Nat)] := fun w' h => h.blk pnr (by rintro (h | h); exact hne4 h; exact hb24 h.symm)
       have hS : ∀ w', Fr wr w' (fun k => k = R ∨ k = b2) → ((fun w' => w'.cell? ⟨b4, 2, none⟩ = some (.bool false) ∧ w'.cell? ⟨b4, 3, none⟩ = some (.slice B t3.length d))) w' := fun w' h => ⟨(pnd w' h).cell 2, (pnd w' h).cell 3⟩
       have hfd0 : Fr wr wr.drew (fun k => k = R ∨ k = b2) := Fr.of_below (Below.refl _ _).drew
       have hpd : Pa wr.drew R R0 _ c ws e (a + 1 + 1) := hpr.below (Below.refl _ _).drew
       have pbd : Blk wr.drew b2 28 tz := pbr
       refine wp_region_held_drew (S := fun w' => w'.cell? ⟨b4, 2, none⟩ = some (.bool false) ∧ w'.cell? ⟨b4, 3, none⟩ = some (.slice B t3.length d)) (by kernel_rfl) (hS _ hfd0) (fun hHeld => ?_)
       refine take_at 0 (by kernel_rfl) (by kernel_rfl) (by kernel_rfl) (fun _ _ d _ _ h => by cases d <;> exact h) ⟨_, rfl⟩ (by assumption) (fun o ho => ?_)
       simp only [zg1, zg3, zg4] at ho
       subst ho
       refine ⟨?_, ⟨by rfl, ?_⟩, ?_⟩
       rotate_left
       · intro w hSw
         (try dsimp only at hSw)
         (go_simp; try with_reducible rfl)
       (try simp only [Act.put, zs1, zs2, zs3])
       refine take_at 1 (by kernel_rfl) (by kernel_rfl) (by kernel_rfl) (fun _ _ d _ _ h => by cases d <;> exact h) ⟨_, rfl⟩ (by assumption) (fun o ho => ?_)
       simp only [zg1, zg2, zg3, zg4] at ho
       subst ho
       refine ⟨?_, ⟨by rfl, ?_⟩, ?_⟩
       rotate_left
       · intro w hSw
         (try dsimp only at hSw)
         (go_simp; try with_reducible rfl)
       (try simp only [Act.put, zs1, zs2, zs3])
       refine take_at 2 (by kernel_rfl) (by kernel_rfl) (by kernel_rfl) (fun _ _ d _ _ h => by cases d <;> exact h) ⟨_, rfl⟩ (by assumption) (fun o ho => ?_)
       simp only [zg1, zg2, zg3, zg4] at ho
       subst ho
       refine ⟨?_, ⟨by rfl, ?_⟩, ?_⟩
       rotate_left
       · intro w hSw
         (try dsimp only at hSw)
         (go_simp; try with_reducible rfl)
       (try simp only [Act.put, zs1, zs2, zs3])
       refine wpAnyH_ready (rs := [3]) (by kernel_rfl) (by simp) ?_
       refine ready_at 3 ⟨_, rfl⟩ (fun o ho K hK => ?_) AllReadyH.nil
       simp only [zg1, zg2, zg3, zg4] at ho
       subst ho
       go_simp
       go_at_call 164
       refine (HSM.out.ok hpd ((hfr.below (Below.refl _ _).drew).lt H0.out) HY.out).mono ?_
       rintro ex w9 ⟨v, a9, rfl, rfl, hp9, hg9, hf9⟩
       obtain ⟨F1, f1, F2, f2, F3, f3, rfl⟩ := hg9.form
       have hf79 : Fr wr w9 (fun k => k = R ∨ k = b2) := (hfd0.step hf9 (fun k hk => .inl (.inl hk)))
       have hal9 := below_alloc1 w9 (row1 (tc u.k u.nm F1 u.ns.length f1 u.ng F2 u.mg.length f2 F3 u.ks.length f3))
       have HPB9 := Lib.hid ((hf9.blk pbd hne).below hal9)
       obtain ⟨⟨q0, q1, q2, q3, q4, q5⟩, x0, x1, x2, x3, x4, x5⟩ := HPB9.out.open6
       refine hK.out _ _ (hS _ hf79) (fun hHeld2 => ?_)
       replace hHeld := hHeld2
       clear hK K hHeld2
       (try simp only [Act.put, zs1, zs2, zs3])
       refine wpAnyH_ready (rs := [4]) (by kernel_rfl) (by simp) ?_
       refine ready_at 4 ⟨_, rfl⟩ (fun o ho K hK => ?_) AllReadyH.nil
       simp only [zg1, zg2, zg3, zg4] at ho
       subst ho
       go_simp
       refine hK.out _ _ (hS _ (hf79.below hal9)) (fun hHeld2 => ?_)
       replace hHeld := hHeld2
       clear hK K hHeld2
       (try simp only [Act.put, zs1, zs2, zs3])
       refine take_at 5 (by kernel_rfl) (by kernel_rfl) (by kernel_rfl) (fun _ _ d _ _ h => by cases d <;> exact h) ⟨_, rfl⟩ (by assumption) (fun o ho => ?_)
       simp only [zg1, zg2, zg3, zg4] at ho
       subst ho
       refine ⟨?_, ⟨by rfl, ?_⟩, ?_⟩
       rotate_left
       · intro w hSw
         (try dsimp only at hSw)
         (go_simp; try with_reducible rfl)
       (try simp only [Act.put, zs1, zs2, zs3])
       refine wpAnyH_ready (rs := [6]) (by kernel_rfl) (by simp) ?_
       refine ready_at 6 ⟨_, rfl⟩ (fun o ho K hK => ?_) AllReadyH.nil
       simp only [zg1, zg2, zg3, zg4] at ho
       subst ho
       go_simp
       refine hK.out _ _ (hS _ ((hf79.below hal9).step (fr6 _ _ _ _ _ _ _ _) (fun k hk => .inl (.inr hk)))) (fun _ => ?_)
       clear hK K
       refine wpAnyH_done (by kernel_rfl) ?_ _
       (try dsimp only)
       go_wp2_with fail
       refine bodyPost_ret (results_tr rfl _ _ _ _ _ _ _ _ _ rfl (HPB9.out.set6 _ _ _ _ _ _)) rfl ?_
       exact ans_one (b := b2) (lo := W.heap.size) (Nat.le_of_eq HB2.out.symm) (by have := HB2.out; have := HSZ.out; omega) (by show W.heap.size ≤ wr.heap.size; omega) ((hfr.below (Below.refl _ _).drew).step hf9 (fun _ hk => .inl hk)) hp9 hg9 (NmE.nil _ _ _ _) (hlmr.keep (Kp.of_fr hf79 (fun b hb e => by rcases e with e | e; exact hp6.2.1 (e ▸ hb); have := H0.out b hb; have := HB2.out; omega))) (fr6 _ _ _ _ _ _ _ _) H0.out hRl
    ·
     rw [Bool.not_eq_true] at h4
     simp only [P.step, h1, h2, h3, tail_drop, h4, Bool.false_eq_true, if_false] at hXe
     have hXe : (P.G e f .sum (ws.drop a)).bind (fun t r => if P.sign r = 0 then P.wrong e r else (P.G e f .sum r.tail).bind (fun u r' => .ok (P.nd (P.sign r) [t, u]) r')) = X := hXe
     have hkr := fun (w' : World) (h : Pa w' R R0 A c ws e a) => kind_r h
     have hpp := fun (w' : World) (h : Pa w' R R0 A c ws e a) => peek_r h ⟨#[40]⟩ 0 (by omega) 0 rfl
     rw [Nat.add_zero, h3] at hpp
     have HPP := Lib.hid hpp
     clear h1 h2 h3 hpp
     have hdiv : ∃ kd : Nat, P.kd (ws.drop a) = kd ∧ (((kd : Int) == 1) = false ∨ (kd = 1 ∧ P.isW ⟨#[100, 105, 118, 105, 100, 101, 115]⟩ (ws.drop (a + 1)) = false)) := by
      refine ⟨_, rfl, ?_⟩
      by_cases h : P.kd (ws.drop a) = 1
      · right
        rw [h] at h4
        exact ⟨h, by simpa using h4⟩
      · left
        simp
        omega
     obtain ⟨kd, hkd, hdiv⟩ := hdiv
     rw [hkd] at hkr
     have HKR := Lib.hid hkr
     clear h4 hkd hkr
     rcases hdiv with k1 | ⟨rfl, h5⟩
     ·
      skip
      cases hY : P.G e f .sum (ws.drop a) with
      | out => rw [hY] at hXe; exact absurd hXe.symm hX
      | bad cd p =>
       rw [hY] at hXe
       have hXe : P.Rd.bad cd p = X := hXe
       subst hXe
       have HY := Lib.hid hY
       clear hX hY
       go_enter Tryz.func144, Tryz.ntmps144
       go_upto_region 1 with (fail)
       rw [← HW.out, ← HB2.out]
       go_upto_region 3 with (go_at_call 68; refine (is_no hp0 _ H1.out).mono ?_; rintro ex w1 ⟨rfl, hb1⟩)
       have hp1 := hp0.below hb1
       have hf1 := hf0.below hb1
       have pb1 := pb0.below hb1
       go_upto_region 5 with (go_at_call 68; refine (is_no hp1 _ H2.out).mono ?_; rintro ex w2 ⟨rfl, hb2⟩)
       have hp2 := hp1.below hb2
       have hf2 := hf1.below hb2
       have pb2 := pb1.below hb2
       go_upto_region 9 with (go_at_call 68; refine (is_no hp2 _ H3.out).mono ?_; rintro ex w3 ⟨rfl, hb3⟩)
       have hp3 := hp2.below hb3
       have hf3 := hf2.below hb3
       have pb3 := pb2.below hb3
       have hs3 : W.heap.size ≤ w3.heap.size := by have := hb1.size; have := hb2.size; have := hb3.size; omega
       go_upto_region 15 with (go_at_call 161; refine (HKR.out _ hp3).mono ?_; rintro ex w4 ⟨rfl, hb4⟩)
       have hp5 := hp3.below hb4
       have hf5 := hf3.below hb4
       have pb5 := pb3.below hb4
       have hs5 := hb4.size
       go_upto_region 17 with (go_at_call 110; refine (HPP.out _ hp5).mono ?_; rintro ex w6 ⟨rfl, hb6⟩)
       have hp6 := hp5.below hb6
       have hf6 := hf5.below hb6
       have pb6 := pb5.below hb6
       have hs6 := hb6.size
       go_wp2_with (go_at_call 164; refine (HSM.out.bad hp6 (hf6.lt H0.out) HY.out).mono ?_; rintro ex w9 ⟨rfl, hf9⟩)
       exact ⟨rfl, rfl, hf6.step hf9 (fun _ hk => .inl hk)⟩
      | ok t r =>
       rw [hY] at hXe
       have hXe : (if P.sign r = 0 then P.wrong e r else (P.G e f .sum r.tail).bind (fun u r' => .ok (P.nd (P.sign r) [t, u]) r')) = X := hXe
       have HY := Lib.hid hY
       clear hY
       go_enter Tryz.func144, Tryz.ntmps144
       go_upto_region 1 with (fail)
       rw [← HW.out, ← HB2.out]
       go_upto_region 3 with (go_at_call 68; refine (is_no hp0 _ H1.out).mono ?_; rintro ex w1 ⟨rfl, hb1⟩)
       have hp1 := hp0.below hb1
       have hf1 := hf0.below hb1
       have pb1 := pb0.below hb1
       go_upto_region 5 with (go_at_call 68; refine (is_no hp1 _ H2.out).mono ?_; rintro ex w2 ⟨rfl, hb2⟩)
       have hp2 := hp1.below hb2
       have hf2 := hf1.below hb2
       have pb2 := pb1.below hb2
       go_upto_region 9 with (go_at_call 68; refine (is_no hp2 _ H3.out).mono ?_; rintro ex w3 ⟨rfl, hb3⟩)
       have hp3 := hp2.below hb3
       have hf3 := hf2.below hb3
       have pb3 := pb2.below hb3
       have hs3 : W.heap.size ≤ w3.heap.size := by have := hb1.size; have := hb2.size; have := hb3.size; omega
       go_upto_region 15 with (go_at_call 161; refine (HKR.out _ hp3).mono ?_; rintro ex w4 ⟨rfl, hb4⟩)
       have hp5 := hp3.below hb4
       have hf5 := hf3.below hb4
       have pb5 := pb3.below hb4
       have hs5 := hb4.size
       go_upto_region 17 with (go_at_call 110; refine (HPP.out _ hp5).mono ?_; rintro ex w6 ⟨rfl, hb6⟩)
       have hp6 := hp5.below hb6
       have hf6 := hf5.below hb6
       have pb6 := pb5.below hb6
       have hs6 := hb6.size
       go_upto_region 18 with (go_at_call 164; refine (HSM.out.ok hp6 (hf6.lt H0.out) HY.out).mono ?_; rintro ex w7 ⟨v, a3, rfl, rfl, hp7, hgt, hg7⟩; obtain ⟨G1, g1, G2, g2, G3, g3, rfl⟩ := hgt.form)
       obtain ⟨w8, hw8, pc8, hb8⟩ := made_blk w7 #[.int .i64 t.k, .string t.nm, .slice G1 t.ns.length g1, .bool t.ng, .slice G2 t.mg.length g2, .slice G3 t.ks.length g3] 28
       obtain ⟨b5, hb5'⟩ : ∃ b, b = w7.heap.size := ⟨_, rfl⟩
       rw [← hw8, ← hb5']
       rw [← hb5'] at pc8
       have hp8 := hp7.below hb8
       have hf8 := (hf6.step hg7 (fun _ hk => .inl hk)).below hb8
       have pb8 := (hg7.blk pb6 hne).below hb8
       have hgt8 := hgt.later hb8 (Nat.le_refl _)
       have hs7 := hg7.size
       have hs8 := hb8.size
       have hne5 : ¬ b5 = R := by have := HSZ.out; omega
       have hb25 : ¬ b2 = b5 := by have := HSZ.out; have := HB2.out; omega
       have HXE := Lib.hid hXe
       have hA := hp8.2.2.2.1
       clear hw8 hb5' hXe HY
       obtain ⟨c0, c1, c2⟩ := three hp8.1
       obtain ⟨n, hn⟩ : ∃ n, ws.length = n := ⟨_, rfl⟩
       have hwd := hp8.2.2.1
       unfold Wds at hwd
       rw [hn] at c0 hwd hA
       have HN := Lib.hid hn
       clear hn
       by_cases hi : a3 < n
       ·
        obtain ⟨g, hgA, _, hcs⟩ := hwd (by omega)
        obtain ⟨_, _, _, e1, _⟩ := hcs a3 hi
        subst hgA
        have d1 : decide (a3 < n) = true := decide_eq_true hi
        have i0 : (0 : Int) ≤ (a3 : Int) := by omega
        have i1 : (a3 : Int) < n := by omega
        obtain ⟨x, hx⟩ : ∃ x, (ws.getD a3 wd0).2.1 = x := ⟨_, rfl⟩
        have hsg : ∀ s, P.isW s (ws.drop a3) = decide (x = s) := fun s => by
         rw [P.isW_drop, HN.out, decide_eq_true hi, hx]
         rfl
        rw [hx] at e1
        have HSG := Lib.hid hsg
        clear hcs hwd hx hsg
        by_cases x0 : x = ⟨#[60]⟩
        rotate_left
        have q0 : (x.toList == [60]) = false := toList_beq (fun h => x0 (bytes_ext h))
        by_cases x1 : x = ⟨#[60, 61]⟩
        rotate_left
        have q1 : (x.toList == [60, 61]) = false := toList_beq (fun h => x1 (bytes_ext h))
        by_cases x2 : x = ⟨#[61]⟩
        rotate_left
        have q2 : (x.toList == [61]) = false := toList_beq (fun h => x2 (bytes_ext h))
        by_cases x3 : x = ⟨#[33, 61]⟩
        rotate_left
        have q3 : (x.toList == [33, 61]) = false := toList_beq (fun h => x3 (bytes_ext h))
        by_cases x4 : x = ⟨#[62, 61]⟩
        rotate_left
        have q4 : (x.toList == [62, 61]) = false := toList_beq (fun h => x4 (bytes_ext h))
        by_cases x5 : x = ⟨#[62]⟩
        rotate_left
        have q5 : (x.toList == [62]) = false := toList_beq (fun h => x5 (bytes_ext h))
        ·
         skip
         have hsn : P.sign (ws.drop a3) = 0 := by
          unfold P.sign
          simp only [HSG.out, decide_eq_false x0, decide_eq_false x1, decide_eq_false x2, decide_eq_false x3, decide_eq_false x4, decide_eq_false x5]
          rfl
         have hXe := HXE.out
         rw [hsn, if_pos rfl] at hXe
         have HXW := Lib.hid hXe
         clear hsn HXE x0 x1 x2 x3 x4 x5 hXe
         go_upto_region 19 with (fail)
         go_quiet (fail)
         revert nq
         intro na
         go_upto_region 20 with (fail)
         go_quiet (fail)
         go_wp2_with (go_at_call 39; refine (wrong_r (hp8.below (below_drewN (Below.refl _ _) (na + nq)))).mono ?_; rintro ex w9 ⟨cd, p, hwr, rfl, hb9⟩)
         rw [← HXW.out, hwr]
         exact ⟨rfl, rfl, (hf8.below (below_drewN (Below.refl _ _) (na + nq))).below hb9⟩
        all_goals
         first | subst x0 | subst x1 | subst x2 | subst x3 | subst x4 | subst x5
         first
           | have hsn : P.sign (ws.drop a3) = 9 := by (unfold P.sign; simp only [HSG.out]; decide)
           | have hsn : P.sign (ws.drop a3) = 10 := by (unfold P.sign; simp only [HSG.out]; decide)
           | have hsn : P.sign (ws.drop a3) = 11 := by (unfold P.sign; simp only [HSG.out]; decide)
           | have hsn : P.sign (ws.drop a3) = 12 := by (unfold P.sign; simp only [HSG.out]; decide)
           | have hsn : P.sign (ws.drop a3) = 13 := by (unfold P.sign; simp only [HSG.out]; decide)
           | have hsn : P.sign (ws.drop a3) = 14 := by (unfold P.sign; simp only [HSG.out]; decide)
         have hXe := HXE.out
         rw [hsn, if_neg (by decide), tail_drop] at hXe
         have hltw : a3 < ws.length := by rw [HN.out]; exact hi
         clear hsn HXE
         try clear x0
         try clear x1
         try clear x2
         try clear x3
         try clear x4
         cases hY : P.G e f .sum (ws.drop (a3 + 1)) with
         | out => rw [hY] at hXe; exact absurd hXe.symm hX
         | bad cd p =>
          rw [hY] at hXe
          have hXe : P.Rd.bad cd p = X := hXe
          subst hXe
          have HY := Lib.hid hY
          clear hX hY
          go_upto_region 19 with (fail)
          go_quiet (fail)
          revert nq
          intro na
          go_upto_region 20 with (fail)
          go_quiet (fail)
          have hdz := below_drewN (Below.refl w8.heap.size w8) (na + nq)
          have hp8z := hp8.below hdz
          obtain ⟨r0, r1, r2⟩ := three hp8z.1
          rw [HN.out] at r0
          have rf := hp8z.1.free 1
          have hwr : IntKind.i64.wrap ((a3 : Int) + 1) = (a3 : Int) + 1 := wrap_nat (by omega) (by have := hp8.2.2.2.2; omega)
          obtain ⟨hpz, hgz⟩ := hp8z.inc hltw
          go_upto_region 36 with (fail)
          obtain ⟨wz, hwz⟩ : ∃ W, (w8.drewN (na + nq)).setCell ⟨R, 1, none⟩ (.int .i64 ((a3 : Int) + 1)) = W := ⟨_, rfl⟩
          rw [hwz] at hpz hgz ⊢
          clear hwz r0 r1 r2 rf hwr c0 c1 c2
          have hfz := (hf8.below hdz).step hgz (fun _ hk => .inl hk)
          have pbz := hgz.blk (pb8.below hdz) hne
          have pcz := hgz.blk (pc8.below hdz) hne5
          have hgtz := (hgt8.later hdz hs8).fr hgz (fun b hb e => hp8.2.1 (e ▸ hb)) (fun b h1 _ _ e => by have : b = R := e; have := HSZ.out; omega) hs8
          have hsz9 : w8.heap.size ≤ wz.heap.size := hgz.size
          have pnd : ∀ w', Fr wz w' (fun k => k = R ∨ k = b2) → Blk w' b5 28 #[.int .i64 t.k, .string t.nm, .slice G1 t.ns.length g1, .bool t.ng, .slice G2 t.mg.length g2, .slice G3 t.ks.length g3] := fun w' h => h.blk pcz (by rintro (h | h); exact hne5 h; exact hb25 h.symm)
          have hS : ∀ w', Fr wz w' (fun k => k = R ∨ k = b2) → ((fun w' => w'.cell? ⟨b5, 0, none⟩ = some (Value.int .i64 t.k) ∧ w'.cell? ⟨b5, 1, none⟩ = some (Value.string t.nm) ∧ w'.cell? ⟨b5, 2, none⟩ = some (Value.slice G1 t.ns.length g1) ∧ w'.cell? ⟨b5, 3, none⟩ = some (Value.bool t.ng) ∧ w'.cell? ⟨b5, 4, none⟩ = some (Value.slice G2 t.mg.length g2) ∧ w'.cell? ⟨b5, 5, none⟩ = some (Value.slice G3 t.ks.length g3))) w' := fun w' h => (pnd w' h).six
          have hfd0 : Fr wz wz.drew (fun k => k = R ∨ k = b2) := Fr.of_below (Below.refl _ _).drew
          have hpd : Pa wz.drew R R0 _ c ws e (a3 + 1) := hpz.below (Below.refl _ _).drew
          have pbd : Blk wz.drew b2 28 tz := pbz
          refine wp_region_held_drew (S := fun w' => w'.cell? ⟨b5, 0, none⟩ = some (Value.int .i64 t.k) ∧ w'.cell? ⟨b5, 1, none⟩ = some (Value.string t.nm) ∧ w'.cell? ⟨b5, 2, none⟩ = some (Value.slice G1 t.ns.length g1) ∧ w'.cell? ⟨b5, 3, none⟩ = some (Value.bool t.ng) ∧ w'.cell? ⟨b5, 4, none⟩ = some (Value.slice G2 t.mg.length g2) ∧ w'.cell? ⟨b5, 5, none⟩ = some (Value.slice G3 t.ks.length g3)) (by kernel_rfl) (hS _ hfd0) (fun hHeld => ?_)
          refine take_at 0 (by kernel_rfl) (by kernel_rfl) (by kernel_rfl) (fun _ _ d _ _ h => by cases d <;> exact h) ⟨_, rfl⟩ (by assumption) (fun o ho => ?_)
          simp only [zg1, zg3, zg4] at ho
          subst ho
          refine ⟨?_, ⟨by rfl, ?_⟩, ?_⟩
          rotate_left
          · intro w hSw
            (try dsimp only at hSw)
            (go_simp; try with_reducible rfl)
          (try simp only [Act.put, zs1, zs2, zs3])
          refine take_at 1 (by kernel_rfl) (by kernel_rfl) (by kernel_rfl) (fun _ _ d _ _ h => by cases d <;> exact h) ⟨_, rfl⟩ (by assumption) (fun o ho => ?_)
          simp only [zg1, zg2, zg3, zg4] at ho
          subst ho
          refine ⟨?_, ⟨by rfl, ?_⟩, ?_⟩
          rotate_left
          · intro w hSw
            (try dsimp only at hSw)
            (go_simp; try with_reducible rfl)
          (try simp only [Act.put, zs1, zs2, zs3])
          refine take_at 2 (by kernel_rfl) (by kernel_rfl) (by kernel_rfl) (fun _ _ d _ _ h => by cases d <;> exact h) ⟨_, rfl⟩ (by assumption) (fun o ho => ?_)
          simp only [zg1, zg2, zg3, zg4] at ho
          subst ho
          refine ⟨?_, ⟨by rfl, ?_⟩, ?_⟩
          rotate_left
          · intro w hSw
            (try dsimp only at hSw)
            (go_simp; try with_reducible rfl)
          (try simp only [Act.put, zs1, zs2, zs3])
          refine wpAnyH_ready (rs := [3]) (by kernel_rfl) (by simp) ?_
          refine ready_at 3 ⟨_, rfl⟩ (fun o ho K hK => ?_) AllReadyH.nil
          simp only [zg1, zg2, zg3, zg4] at ho
          subst ho
          go_simp
          go_at_call 164
          refine (HSM.out.bad hpd ((hfz.below (Below.refl _ _).drew).lt H0.out) HY.out).mono ?_
          rintro ex w9 ⟨rfl, hf9⟩
          exact ⟨rfl, rfl, (hfz.below (Below.refl _ _).drew).step hf9 (fun _ hk => .inl hk)⟩
         | ok u r =>
          rw [hY] at hXe
          have hXe : P.Rd.ok (P.nd _ [t, u]) r = X := hXe
          subst hXe
          have HY := Lib.hid hY
          clear hX hY
          go_upto_region 19 with (fail)
          go_quiet (fail)
          revert nq
          intro na
          go_upto_region 20 with (fail)
          go_quiet (fail)
          have hdz := below_drewN (Below.refl w8.heap.size w8) (na + nq)
          have hp8z := hp8.below hdz
          obtain ⟨r0, r1, r2⟩ := three hp8z.1
          rw [HN.out] at r0
          have rf := hp8z.1.free 1
          have hwr : IntKind.i64.wrap ((a3 : Int) + 1) = (a3 : Int) + 1 := wrap_nat (by omega) (by have := hp8.2.2.2.2; omega)
          obtain ⟨hpz, hgz⟩ := hp8z.inc hltw
          go_upto_region 36 with (fail)
          obtain ⟨wz, hwz⟩ : ∃ W, (w8.drewN (na + nq)).setCell ⟨R, 1, none⟩ (.int .i64 ((a3 : Int) + 1)) = W := ⟨_, rfl⟩
          rw [hwz] at hpz hgz ⊢
          clear hwz r0 r1 r2 rf hwr c0 c1 c2
          have hfz := (hf8.below hdz).step hgz (fun _ hk => .inl hk)
          have pbz := hgz.blk (pb8.below hdz) hne
          have pcz := hgz.blk (pc8.below hdz) hne5
          have hgtz := (hgt8.later hdz hs8).fr hgz (fun b hb e => hp8.2.1 (e ▸ hb)) (fun b h1 _ _ e => by have : b = R := e; have := HSZ.out; omega) hs8
          have hsz9 : w8.heap.size ≤ wz.heap.size := hgz.size
          have pnd : ∀ w', Fr wz w' (fun k => k = R ∨ k = b2) → Blk w' b5 28 #[.int .i64 t.k, .string t.nm, .slice G1 t.ns.length g1, .bool t.ng, .slice G2 t.mg.length g2, .slice G3 t.ks.length g3] := fun w' h => h.blk pcz (by rintro (h | h); exact hne5 h; exact hb25 h.symm)
          have hS : ∀ w', Fr wz w' (fun k => k = R ∨ k = b2) → ((fun w' => w'.cell? ⟨b5, 0, none⟩ = some (Value.int .i64 t.k) ∧ w'.cell? ⟨b5, 1, none⟩ = some (Value.string t.nm) ∧ w'.cell? ⟨b5, 2, none⟩ = some (Value.slice G1 t.ns.length g1) ∧ w'.cell? ⟨b5, 3, none⟩ = some (Value.bool t.ng) ∧ w'.cell? ⟨b5, 4, none⟩ = some (Value.slice G2 t.mg.length g2) ∧ w'.cell? ⟨b5, 5, none⟩ = some (Value.slice G3 t.ks.length g3))) w' := fun w' h => (pnd w' h).six
          have hfd0 : Fr wz wz.drew (fun k => k = R ∨ k = b2) := Fr.of_below (Below.refl _ _).drew
          have hpd : Pa wz.drew R R0 _ c ws e (a3 + 1) := hpz.below (Below.refl _ _).drew
          have pbd : Blk wz.drew b2 28 tz := pbz
          refine wp_region_held_drew (S := fun w' => w'.cell? ⟨b5, 0, none⟩ = some (Value.int .i64 t.k) ∧ w'.cell? ⟨b5, 1, none⟩ = some (Value.string t.nm) ∧ w'.cell? ⟨b5, 2, none⟩ = some (Value.slice G1 t.ns.length g1) ∧ w'.cell? ⟨b5, 3, none⟩ = some (Value.bool t.ng) ∧ w'.cell? ⟨b5, 4, none⟩ = some (Value.slice G2 t.mg.length g2) ∧ w'.cell? ⟨b5, 5, none⟩ = some (Value.slice G3 t.ks.length g3)) (by kernel_rfl) (hS _ hfd0) (fun hHeld => ?_)
          refine take_at 0 (by kernel_rfl) (by kernel_rfl) (by kernel_rfl) (fun _ _ d _ _ h => by cases d <;> exact h) ⟨_, rfl⟩ (by assumption) (fun o ho => ?_)
          simp only [zg1, zg3, zg4] at ho
          subst ho
          refine ⟨?_, ⟨by rfl, ?_⟩, ?_⟩
          rotate_left
          · intro w hSw
            (try dsimp only at hSw)
            (go_simp; try with_reducible rfl)
          (try simp only [Act.put, zs1, zs2, zs3])
          refine take_at 1 (by kernel_rfl) (by kernel_rfl) (by kernel_rfl) (fun _ _ d _ _ h => by cases d <;> exact h) ⟨_, rfl⟩ (by assumption) (fun o ho => ?_)
          simp only [zg1, zg2, zg3, zg4] at ho
          subst ho
          refine ⟨?_, ⟨by rfl, ?_⟩, ?_⟩
          rotate_left
          · intro w hSw
            (try dsimp only at hSw)
            (go_simp; try with_reducible rfl)
          (try simp only [Act.put, zs1, zs2, zs3])
          refine take_at 2 (by kernel_rfl) (by kernel_rfl) (by kernel_rfl) (fun _ _ d _ _ h => by cases d <;> exact h) ⟨_, rfl⟩ (by assumption) (fun o ho => ?_)
          simp only [zg1, zg2, zg3, zg4] at ho
          subst ho
          refine ⟨?_, ⟨by rfl, ?_⟩, ?_⟩
          rotate_left
          · intro w hSw
            (try dsimp only at hSw)
            (go_simp; try with_reducible rfl)
          (try simp only [Act.put, zs1, zs2, zs3])
          refine wpAnyH_ready (rs := [3]) (by kernel_rfl) (by simp) ?_
          refine ready_at 3 ⟨_, rfl⟩ (fun o ho K hK => ?_) AllReadyH.nil
          simp only [zg1, zg2, zg3, zg4] at ho
          subst ho
          go_simp
          go_at_call 164
          refine (HSM.out.ok hpd ((hfz.below (Below.refl _ _).drew).lt H0.out) HY.out).mono ?_
          rintro ex w9 ⟨v, a9, rfl, rfl, hp9, hg9, hf9⟩
          obtain ⟨F1, f1, F2, f2, F3, f3, rfl⟩ := hg9.form
          have hf79 : Fr wz w9 (fun k => k = R ∨ k = b2) := (hfd0.step hf9 (fun k hk => .inl (.inl hk)))
          have hal9 := below_alloc1 w9 (row2 (tc t.k t.nm G1 t.ns.length g1 t.ng G2 t.mg.length g2 G3 t.ks.length g3) (tc u.k u.nm F1 u.ns.length f1 u.ng F2 u.mg.length f2 F3 u.ks.length f3))
          have HPB9 := Lib.hid ((hf9.blk pbd hne).below hal9)
          obtain ⟨⟨q0, q1, q2, q3, q4, q5⟩, x0, x1, x2, x3, x4, x5⟩ := HPB9.out.open6
          refine hK.out _ _ (hS _ hf79) (fun hHeld2 => ?_)
          replace hHeld := hHeld2
          clear hK K hHeld2
          (try simp only [Act.put, zs1, zs2, zs3])
          refine wpAnyH_ready (rs := [4]) (by kernel_rfl) (by simp) ?_
          refine ready_at 4 ⟨_, rfl⟩ (fun o ho K hK => ?_) AllReadyH.nil
          simp only [zg1, zg2, zg3, zg4] at ho
          subst ho
          go_simp
          refine hK.out _ _ (hS _ (hf79.below hal9)) (fun hHeld2 => ?_)
          replace hHeld := hHeld2
          clear hK K hHeld2
          (try simp only [Act.put, zs1, zs2, zs3])
          refine take_at 5 (by kernel_rfl) (by kernel_rfl) (by kernel_rfl) (fun _ _ d _ _ h => by cases d <;> exact h) ⟨_, rfl⟩ (by assumption) (fun o ho => ?_)
          simp only [zg1, zg2, zg3, zg4] at ho
          subst ho
          refine ⟨?_, ⟨by rfl, ?_⟩, ?_⟩
          rotate_left
          · intro w hSw
            (try dsimp only at hSw)
            (go_simp; try with_reducible rfl)
          (try simp only [Act.put, zs1, zs2, zs3])
          refine wpAnyH_ready (rs := [6]) (by kernel_rfl) (by simp) ?_
          refine ready_at 6 ⟨_, rfl⟩ (fun o ho K hK => ?_) AllReadyH.nil
          simp only [zg1, zg2, zg3, zg4] at ho
          subst ho
          go_simp
          refine hK.out _ _ (hS _ ((hf79.below hal9).step (fr6 _ _ _ _ _ _ _ _) (fun k hk => .inl (.inr hk)))) (fun _ => ?_)
          clear hK K
          refine wpAnyH_done (by kernel_rfl) ?_ _
          (try dsimp only)
          go_wp2_with fail
          refine bodyPost_ret (results_tr rfl _ _ _ _ _ _ _ _ _ rfl (HPB9.out.set6 _ _ _ _ _ _)) rfl ?_
          exact ans_two (E := N0) (b := b2) (lo := w6.heap.size) (m := w7.heap.size) (Nat.le_of_eq HB2.out.symm) (by have := HSZ.out; omega) (.inl (by have := HB2.out; have := HSZ.out; omega)) ((hgtz.later (Below.refl _ _).drew (by omega)).fr hf9 (fun b hb e => hpd.2.1 (e ▸ hb)) (fun b h1 _ _ e => by have : b = R := e; have := HSZ.out; omega) (by show w7.heap.size ≤ wz.heap.size; omega)) (by show w7.heap.size ≤ wz.heap.size; omega) ((hfz.below (Below.refl _ _).drew).step hf9 (fun _ hk => .inl hk)) hp9 hg9 id (fr6 _ _ _ _ _ _ _ _) H0.out hRl
       ·
        have d1 : decide (a3 < n) = false := decide_eq_false hi
        have hsn : P.sign (ws.drop a3) = 0 := by
         rw [List.drop_eq_nil_of_le (by rw [HN.out]; omega)]
         rfl
        have hXe := HXE.out
        rw [hsn, if_pos rfl] at hXe
        have HXW := Lib.hid hXe
        clear hsn HXE hwd hXe
        go_upto_region 19 with (fail)
        go_quiet (fail)
        revert nq
        intro na
        go_wp2_with (go_at_call 39; refine (wrong_r (hp8.below (below_drewN (Below.refl _ _) na))).mono ?_; rintro ex w9 ⟨cd, p, hwr, rfl, hb9⟩)
        rw [← HXW.out, hwr]
        exact ⟨rfl, rfl, (hf8.below (below_drewN (Below.refl _ _) na)).below hb9⟩
     ·
      skip
      have hpd := fun (w' : World) (h : Pa w' R R0 A c ws e a) => peek_r h ⟨#[100, 105, 118, 105, 100, 101, 115]⟩ 1 (by omega) 1 rfl
      rw [h5] at hpd
      have HPD := Lib.hid hpd
      clear hpd h5
      cases hY : P.G e f .sum (ws.drop a) with
      | out => rw [hY] at hXe; exact absurd hXe.symm hX
      | bad cd p =>
       rw [hY] at hXe
       have hXe : P.Rd.bad cd p = X := hXe
       subst hXe
       have HY := Lib.hid hY
       clear hX hY
       go_enter Tryz.func144, Tryz.ntmps144
       go_upto_region 1 with (fail)
       rw [← HW.out, ← HB2.out]
       go_upto_region 3 with (go_at_call 68; refine (is_no hp0 _ H1.out).mono ?_; rintro ex w1 ⟨rfl, hb1⟩)
       have hp1 := hp0.below hb1
       have hf1 := hf0.below hb1
       have pb1 := pb0.below hb1
       go_upto_region 5 with (go_at_call 68; refine (is_no hp1 _ H2.out).mono ?_; rintro ex w2 ⟨rfl, hb2⟩)
       have hp2 := hp1.below hb2
       have hf2 := hf1.below hb2
       have pb2 := pb1.below hb2
       go_upto_region 9 with (go_at_call 68; refine (is_no hp2 _ H3.out).mono ?_; rintro ex w3 ⟨rfl, hb3⟩)
       have hp3 := hp2.below hb3
       have hf3 := hf2.below hb3
       have pb3 := pb2.below hb3
       have hs3 : W.heap.size ≤ w3.heap.size := by have := hb1.size; have := hb2.size; have := hb3.size; omega
       go_upto_region 15 with (first
        | (go_at_call 161; refine (HKR.out _ hp3).mono ?_; rintro ex w4 ⟨rfl, hb4⟩; have hp4 := hp3.below hb4)
        | (go_at_call 110; refine (HPD.out _ hp4).mono ?_; rintro ex w5 ⟨rfl, hb5⟩))
       have hp5 := hp4.below hb5
       have hf5 := (hf3.below hb4).below hb5
       have pb5 := (pb3.below hb4).below hb5
       have hs5 : w3.heap.size ≤ w5.heap.size := Nat.le_trans hb4.size hb5.size
       go_upto_region 17 with (go_at_call 110; refine (HPP.out _ hp5).mono ?_; rintro ex w6 ⟨rfl, hb6⟩)
       have hp6 := hp5.below hb6
       have hf6 := hf5.below hb6
       have pb6 := pb5.below hb6
       have hs6 := hb6.size
       go_wp2_with (go_at_call 164; refine (HSM.out.bad hp6 (hf6.lt H0.out) HY.out).mono ?_; rintro ex w9 ⟨rfl, hf9⟩)
       exact ⟨rfl, rfl, hf6.step hf9 (fun _ hk => .inl hk)⟩
      | ok t r =>
       rw [hY] at hXe
       have hXe : (if P.sign r = 0 then P.wrong e r else (P.G e f .sum r.tail).bind (fun u r' => .ok (P.nd (P.sign r) [t, u]) r')) = X := hXe
       have HY := Lib.hid hY
       clear hY
       go_enter Tryz.func144, Tryz.ntmps144
       go_upto_region 1 with (fail)
       rw [← HW.out, ← HB2.out]
       go_upto_region 3 with (go_at_call 68; refine (is_no hp0 _ H1.out).mono ?_; rintro ex w1 ⟨rfl, hb1⟩)
       have hp1 := hp0.below hb1
       have hf1 := hf0.below hb1
       have pb1 := pb0.below hb1
       go_upto_region 5 with (go_at_call 68; refine (is_no hp1 _ H2.out).mono ?_; rintro ex w2 ⟨rfl, hb2⟩)
       have hp2 := hp1.below hb2
       have hf2 := hf1.below hb2
       have pb2 := pb1.below hb2
       go_upto_region 9 with (go_at_call 68; refine (is_no hp2 _ H3.out).mono ?_; rintro ex w3 ⟨rfl, hb3⟩)
       have hp3 := hp2.below hb3
       have hf3 := hf2.below hb3
       have pb3 := pb2.below hb3
       have hs3 : W.heap.size ≤ w3.heap.size := by have := hb1.size; have := hb2.size; have := hb3.size; omega
       go_upto_region 15 with (first
        | (go_at_call 161; refine (HKR.out _ hp3).mono ?_; rintro ex w4 ⟨rfl, hb4⟩; have hp4 := hp3.below hb4)
        | (go_at_call 110; refine (HPD.out _ hp4).mono ?_; rintro ex w5 ⟨rfl, hb5⟩))
       have hp5 := hp4.below hb5
       have hf5 := (hf3.below hb4).below hb5
       have pb5 := (pb3.below hb4).below hb5
       have hs5 : w3.heap.size ≤ w5.heap.size := Nat.le_trans hb4.size hb5.size
       go_upto_region 17 with (go_at_call 110; refine (HPP.out _ hp5).mono ?_; rintro ex w6 ⟨rfl, hb6⟩)
       have hp6 := hp5.below hb6
       have hf6 := hf5.below hb6
       have pb6 := pb5.below hb6
       have hs6 := hb6.size
       go_upto_region 18 with (go_at_call 164; refine (HSM.out.ok hp6 (hf6.lt H0.out) HY.out).mono ?_; rintro ex w7 ⟨v, a3, rfl, rfl, hp7, hgt, hg7⟩; obtain ⟨G1, g1, G2, g2, G3, g3, rfl⟩ := hgt.form)
       obtain ⟨w8, hw8, pc8, hb8⟩ := made_blk w7 #[.int .i64 t.k, .string t.nm, .slice G1 t.ns.length g1, .bool t.ng, .slice G2 t.mg.length g2, .slice G3 t.ks.length g3] 28
       obtain ⟨b5, hb5'⟩ : ∃ b, b = w7.heap.size := ⟨_, rfl⟩
       rw [← hw8, ← hb5']
       rw [← hb5'] at pc8
       have hp8 := hp7.below hb8
       have hf8 := (hf6.step hg7 (fun _ hk => .inl hk)).below hb8
       have pb8 := (hg7.blk pb6 hne).below hb8
       have hgt8 := hgt.later hb8 (Nat.le_refl _)
       have hs7 := hg7.size
       have hs8 := hb8.size
       have hne5 : ¬ b5 = R := by have := HSZ.out; omega
       have hb25 : ¬ b2 = b5 := by have := HSZ.out; have := HB2.out; omega
       have HXE := Lib.hid hXe
       have hA := hp8.2.2.2.1
       clear hw8 hb5' hXe HY
       obtain ⟨c0, c1, c2⟩ := three hp8.1
       obtain ⟨n, hn⟩ : ∃ n, ws.length = n := ⟨_, rfl⟩
       have hwd := hp8.2.2.1
       unfold Wds at hwd
       rw [hn] at c0 hwd hA
       have HN := Lib.hid hn
       clear hn
       by_cases hi : a3 < n
       ·
        obtain ⟨g, hgA, _, hcs⟩ := hwd (by omega)
        obtain ⟨_, _, _, e1, _⟩ := hcs a3 hi
        subst hgA
        have d1 : decide (a3 < n) = true := decide_eq_true hi
        have i0 : (0 : Int) ≤ (a3 : Int) := by omega
        have i1 : (a3 : Int) < n := by omega
        obtain ⟨x, hx⟩ : ∃ x, (ws.getD a3 wd0).2.1 = x := ⟨_, rfl⟩
        have hsg : ∀ s, P.isW s (ws.drop a3) = decide (x = s) := fun s => by
         rw [P.isW_drop, HN.out, decide_eq_true hi, hx]
         rfl
        rw [hx] at e1
        have HSG := Lib.hid hsg
        clear hcs hwd hx hsg
        by_cases x0 : x = ⟨#[60]⟩
        rotate_left
        have q0 : (x.toList == [60]) = false := toList_beq (fun h => x0 (bytes_ext h))
        by_cases x1 : x = ⟨#[60, 61]⟩
        rotate_left
        have q1 : (x.toList == [60, 61]) = false := toList_beq (fun h => x1 (bytes_ext h))
        by_cases x2 : x = ⟨#[61]⟩
        rotate_left
        have q2 : (x.toList == [61]) = false := toList_beq (fun h => x2 (bytes_ext h))
        by_cases x3 : x = ⟨#[33, 61]⟩
        rotate_left
        have q3 : (x.toList == [33, 61]) = false := toList_beq (fun h => x3 (bytes_ext h))
        by_cases x4 : x = ⟨#[62, 61]⟩
        rotate_left
        have q4 : (x.toList == [62, 61]) = false := toList_beq (fun h => x4 (bytes_ext h))
        by_cases x5 : x = ⟨#[62]⟩
        rotate_left
        have q5 : (x.toList == [62]) = false := toList_beq (fun h => x5 (bytes_ext h))
        ·
         skip
         have hsn : P.sign (ws.drop a3) = 0 := by
          unfold P.sign
          simp only [HSG.out, decide_eq_false x0, decide_eq_false x1, decide_eq_false x2, decide_eq_false x3, decide_eq_false x4, decide_eq_false x5]
          rfl
         have hXe := HXE.out
         rw [hsn, if_pos rfl] at hXe
         have HXW := Lib.hid hXe
         clear hsn HXE x0 x1 x2 x3 x4 x5 hXe
         go_upto_region 19 with (fail)
         go_quiet (fail)
         revert nq
         intro na
         go_upto_region 20 with (fail)
         go_quiet (fail)
         go_wp2_with (go_at_call 39; refine (wrong_r (hp8.below (below_drewN (Below.refl _ _) (na + nq)))).mono ?_; rintro ex w9 ⟨cd, p, hwr, rfl, hb9⟩)
         rw [← HXW.out, hwr]
         exact ⟨rfl, rfl, (hf8.below (below_drewN (Below.refl _ _) (na + nq))).below hb9⟩
        all_goals
         first | subst x0 | subst x1 | subst x2 | subst x3 | subst x4 | subst x5
         first
           | have hsn : P.sign (ws.drop a3) = 9 := by (unfold P.sign; simp only [HSG.out]; decide)
           | have hsn : P.sign (ws.drop a3) = 10 := by (unfold P.sign; simp only [HSG.out]; decide)
           | have hsn : P.sign (ws.drop a3) = 11 := by (unfold P.sign; simp only [HSG.out]; decide)
           | have hsn : P.sign (ws.drop a3) = 12 := by (unfold P.sign; simp only [HSG.out]; decide)
           | have hsn : P.sign (ws.drop a3) = 13 := by (unfold P.sign; simp only [HSG.out]; decide)
           | have hsn : P.sign (ws.drop a3) = 14 := by (unfold P.sign; simp only [HSG.out]; decide)
         have hXe := HXE.out
         rw [hsn, if_neg (by decide), tail_drop] at hXe
         have hltw : a3 < ws.length := by rw [HN.out]; exact hi
         clear hsn HXE
         try clear x0
         try clear x1
         try clear x2
         try clear x3
         try clear x4
         cases hY : P.G e f .sum (ws.drop (a3 + 1)) with
         | out => rw [hY] at hXe; exact absurd hXe.symm hX
         | bad cd p =>
          rw [hY] at hXe
          have hXe : P.Rd.bad cd p = X := hXe
          subst hXe
          have HY := Lib.hid hY
          clear hX hY
          go_upto_region 19 with (fail)
          go_quiet (fail)
          revert nq
          intro na
          go_upto_region 20 with (fail)
          go_quiet (fail)
          have hdz := below_drewN (Below.refl w8.heap.size w8) (na + nq)
          have hp8z := hp8.below hdz
          obtain ⟨r0, r1, r2⟩ := three hp8z.1
          rw [HN.out] at r0
          have rf := hp8z.1.free 1
          have hwr : IntKind.i64.wrap ((a3 : Int) + 1) = (a3 : Int) + 1 := wrap_nat (by omega) (by have := hp8.2.2.2.2; omega)
          obtain ⟨hpz, hgz⟩ := hp8z.inc hltw
          go_upto_region 36 with (fail)
          obtain ⟨wz, hwz⟩ : ∃ W, (w8.drewN (na + nq)).setCell ⟨R, 1, none⟩ (.int .i64 ((a3 : Int) + 1)) = W := ⟨_, rfl⟩
          rw [hwz] at hpz hgz ⊢
          clear hwz r0 r1 r2 rf hwr c0 c1 c2
          have hfz := (hf8.below hdz).step hgz (fun _ hk => .inl hk)
          have pbz := hgz.blk (pb8.below hdz) hne
          have pcz := hgz.blk (pc8.below hdz) hne5
          have hgtz := (hgt8.later hdz hs8).fr hgz (fun b hb e => hp8.2.1 (e ▸ hb)) (fun b h1 _ _ e => by have : b = R := e; have := HSZ.out; omega) hs8
          have hsz9 : w8.heap.size ≤ wz.heap.size := hgz.size
          have pnd : ∀ w', Fr wz w' (fun k => k = R ∨ k = b2) → Blk w' b5 28 #[.int .i64 t.k, .string t.nm, .slice G1 t.ns.length g1, .bool t.ng, .slice G2 t.mg.length g2, .slice G3 t.ks.length g3] := fun w' h => h.blk pcz (by rintro (h | h); exact hne5 h; exact hb25 h.symm)
          have hS : ∀ w', Fr wz w' (fun k => k = R ∨ k = b2) → ((fun w' => w'.cell? ⟨b5, 0, none⟩ = some (Value.int .i64 t.k) ∧ w'.cell? ⟨b5, 1, none⟩ = some (Value.string t.nm) ∧ w'.cell? ⟨b5, 2, none⟩ = some (Value.slice G1 t.ns.length g1) ∧ w'.cell? ⟨b5, 3, none⟩ = some (Value.bool t.ng) ∧ w'.cell? ⟨b5, 4, none⟩ = some (Value.slice G2 t.mg.length g2) ∧ w'.cell? ⟨b5, 5, none⟩ = some (Value.slice G3 t.ks.length g3))) w' := fun w' h => (pnd w' h).six
          have hfd0 : Fr wz wz.drew (fun k => k = R ∨ k = b2) := Fr.of_below (Below.refl _ _).drew
          have hpd : Pa wz.drew R R0 _ c ws e (a3 + 1) := hpz.below (Below.refl _ _).drew
          have pbd : Blk wz.drew b2 28 tz := pbz
          refine wp_region_held_drew (S := fun w' => w'.cell? ⟨b5, 0, none⟩ = some (Value.int .i64 t.k) ∧ w'.cell? ⟨b5, 1, none⟩ = some (Value.string t.nm) ∧ w'.cell? ⟨b5, 2, none⟩ = some (Value.slice G1 t.ns.length g1) ∧ w'.cell? ⟨b5, 3, none⟩ = some (Value.bool t.ng) ∧ w'.cell? ⟨b5, 4, none⟩ = some (Value.slice G2 t.mg.length g2) ∧ w'.cell? ⟨b5, 5, none⟩ = some (Value.slice G3 t.ks.length g3)) (by kernel_rfl) (hS _ hfd0) (fun hHeld => ?_)
          refine take_at 0 (by kernel_rfl) (by kernel_rfl) (by kernel_rfl) (fun _ _ d _ _ h => by cases d <;> exact h) ⟨_, rfl⟩ (by assumption) (fun o ho => ?_)
          simp only [zg1, zg3, zg4] at ho
          subst ho
          refine ⟨?_, ⟨by rfl, ?_⟩, ?_⟩
          rotate_left
          · intro w hSw
            (try dsimp only at hSw)
            (go_simp; try with_reducible rfl)
          (try simp only [Act.put, zs1, zs2, zs3])
          refine take_at 1 (by kernel_rfl) (by kernel_rfl) (by kernel_rfl) (fun _ _ d _ _ h => by cases d <;> exact h) ⟨_, rfl⟩ (by assumption) (fun o ho => ?_)
          simp only [zg1, zg2, zg3, zg4] at ho
          subst ho
          refine ⟨?_, ⟨by rfl, ?_⟩, ?_⟩
          rotate_left
          · intro w hSw
            (try dsimp only at hSw)
            (go_simp; try with_reducible rfl)
          (try simp only [Act.put, zs1, zs2, zs3])
          refine take_at 2 (by kernel_rfl) (by kernel_rfl) (by kernel_rfl) (fun _ _ d _ _ h => by cases d <;> exact h) ⟨_, rfl⟩ (by assumption) (fun o ho => ?_)
          simp only [zg1, zg2, zg3, zg4] at ho
          subst ho
          refine ⟨?_, ⟨by rfl, ?_⟩, ?_⟩
          rotate_left
          · intro w hSw
            (try dsimp only at hSw)
            (go_simp; try with_reducible rfl)
          (try simp only [Act.put, zs1, zs2, zs3])
          refine wpAnyH_ready (rs := [3]) (by kernel_rfl) (by simp) ?_
          refine ready_at 3 ⟨_, rfl⟩ (fun o ho K hK => ?_) AllReadyH.nil
          simp only [zg1, zg2, zg3, zg4] at ho
          subst ho
          go_simp
          go_at_call 164
          refine (HSM.out.bad hpd ((hfz.below (Below.refl _ _).drew).lt H0.out) HY.out).mono ?_
          rintro ex w9 ⟨rfl, hf9⟩
          exact ⟨rfl, rfl, (hfz.below (Below.refl _ _).drew).step hf9 (fun _ hk => .inl hk)⟩
         | ok u r =>
          rw [hY] at hXe
          have hXe : P.Rd.ok (P.nd _ [t, u]) r = X := hXe
          subst hXe
          have HY := Lib.hid hY
          clear hX hY
          go_upto_region 19 with (fail)
          go_quiet (fail)
          revert nq
          intro na
          go_upto_region 20 with (fail)
          go_quiet (fail)
          have hdz := below_drewN (Below.refl w8.heap.size w8) (na + nq)
          have hp8z := hp8.below hdz
          obtain ⟨r0, r1, r2⟩ := three hp8z.1
          rw [HN.out] at r0
          have rf := hp8z.1.free 1
          have hwr : IntKind.i64.wrap ((a3 : Int) + 1) = (a3 : Int) + 1 := wrap_nat (by omega) (by have := hp8.2.2.2.2; omega)
          obtain ⟨hpz, hgz⟩ := hp8z.inc hltw
          go_upto_region 36 with (fail)
          obtain ⟨wz, hwz⟩ : ∃ W, (w8.drewN (na + nq)).setCell ⟨R, 1, none⟩ (.int .i64 ((a3 : Int) + 1)) = W := ⟨_, rfl⟩
          rw [hwz] at hpz hgz ⊢
          clear hwz r0 r1 r2 rf hwr c0 c1 c2
          have hfz := (hf8.below hdz).step hgz (fun _ hk => .inl hk)
          have pbz := hgz.blk (pb8.below hdz) hne
          have pcz := hgz.blk (pc8.below hdz) hne5
          have hgtz := (hgt8.later hdz hs8).fr hgz (fun b hb e => hp8.2.1 (e ▸ hb)) (fun b h1 _ _ e => by have : b = R := e; have := HSZ.out; omega) hs8
          have hsz9 : w8.heap.size ≤ wz.heap.size := hgz.size
          have pnd : ∀ w', Fr wz w' (fun k => k = R ∨ k = b2) → Blk w' b5 28 #[.int .i64 t.k, .string t.nm, .slice G1 t.ns.length g1, .bool t.ng, .slice G2 t.mg.length g2, .slice G3 t.ks.length g3] := fun w' h => h.blk pcz (by rintro (h | h); exact hne5 h; exact hb25 h.symm)
          have hS : ∀ w', Fr wz w' (fun k => k = R ∨ k = b2) → ((fun w' => w'.cell? ⟨b5, 0, none⟩ = some (Value.int .i64 t.k) ∧ w'.cell? ⟨b5, 1, none⟩ = some (Value.string t.nm) ∧ w'.cell? ⟨b5, 2, none⟩ = some (Value.slice G1 t.ns.length g1) ∧ w'.cell? ⟨b5, 3, none⟩ = some (Value.bool t.ng) ∧ w'.cell? ⟨b5, 4, none⟩ = some (Value.slice G2 t.mg.length g2) ∧ w'.cell? ⟨b5, 5, none⟩ = some (Value.slice G3 t.ks.length g3))) w' := fun w' h => (pnd w' h).six
          have hfd0 : Fr wz wz.drew (fun k => k = R ∨ k = b2) := Fr.of_below (Below.refl _ _).drew
          have hpd : Pa wz.drew R R0 _ c ws e (a3 + 1) := hpz.below (Below.refl _ _).drew
          have pbd : Blk wz.drew b2 28 tz := pbz
          refine wp_region_held_drew (S := fun w' => w'.cell? ⟨b5, 0, none⟩ = some (Value.int .i64 t.k) ∧ w'.cell? ⟨b5, 1, none⟩ = some (Value.string t.nm) ∧ w'.cell? ⟨b5, 2, none⟩ = some (Value.slice G1 t.ns.length g1) ∧ w'.cell? ⟨b5, 3, none⟩ = some (Value.bool t.ng) ∧ w'.cell? ⟨b5, 4, none⟩ = some (Value.slice G2 t.mg.length g2) ∧ w'.cell? ⟨b5, 5, none⟩ = some (Value.slice G3 t.ks.length g3)) (by kernel_rfl) (hS _ hfd0) (fun hHeld => ?_)
          refine take_at 0 (by kernel_rfl) (by kernel_rfl) (by kernel_rfl) (fun _ _ d _ _ h => by cases d <;> exact h) ⟨_, rfl⟩ (by assumption) (fun o ho => ?_)
          simp only [zg1, zg3, zg4] at ho
          subst ho
          refine ⟨?_, ⟨by rfl, ?_⟩, ?_⟩
          rotate_left
          · intro w hSw
            (try dsimp only at hSw)
            (go_simp; try with_reducible rfl)
          (try simp only [Act.put, zs1, zs2, zs3])
          refine take_at 1 (by kernel_rfl) (by kernel_rfl) (by kernel_rfl) (fun _ _ d _ _ h => by cases d <;> exact h) ⟨_, rfl⟩ (by assumption) (fun o ho => ?_)
          simp only [zg1, zg2, zg3, zg4] at ho
          subst ho
          refine ⟨?_, ⟨by rfl, ?_⟩, ?_⟩
          rotate_left
          · intro w hSw
            (try dsimp only at hSw)
            (go_simp; try with_reducible rfl)
          (try simp only [Act.put, zs1, zs2, zs3])
          refine take_at 2 (by kernel_rfl) (by kernel_rfl) (by kernel_rfl) (fun _ _ d _ _ h => by cases d <;> exact h) ⟨_, rfl⟩ (by assumption) (fun o ho => ?_)
          simp only [zg1, zg2, zg3, zg4] at ho
          subst ho
          refine ⟨?_, ⟨by rfl, ?_⟩, ?_⟩
          rotate_left
          · intro w hSw
            (try dsimp only at hSw)
            (go_simp; try with_reducible rfl)
          (try simp only [Act.put, zs1, zs2, zs3])
          refine wpAnyH_ready (rs := [3]) (by kernel_rfl) (by simp) ?_
          refine ready_at 3 ⟨_, rfl⟩ (fun o ho K hK => ?_) AllReadyH.nil
          simp only [zg1, zg2, zg3, zg4] at ho
          subst ho
          go_simp
          go_at_call 164
          refine (HSM.out.ok hpd ((hfz.below (Below.refl _ _).drew).lt H0.out) HY.out).mono ?_
          rintro ex w9 ⟨v, a9, rfl, rfl, hp9, hg9, hf9⟩
          obtain ⟨F1, f1, F2, f2, F3, f3, rfl⟩ := hg9.form
          have hf79 : Fr wz w9 (fun k => k = R ∨ k = b2) := (hfd0.step hf9 (fun k hk => .inl (.inl hk)))
          have hal9 := below_alloc1 w9 (row2 (tc t.k t.nm G1 t.ns.length g1 t.ng G2 t.mg.length g2 G3 t.ks.length g3) (tc u.k u.nm F1 u.ns.length f1 u.ng F2 u.mg.length f2 F3 u.ks.length f3))
          have HPB9 := Lib.hid ((hf9.blk pbd hne).below hal9)
          obtain ⟨⟨q0, q1, q2, q3, q4, q5⟩, x0, x1, x2, x3, x4, x5⟩ := HPB9.out.open6
          refine hK.out _ _ (hS _ hf79) (fun hHeld2 => ?_)
          replace hHeld := hHeld2
          clear hK K hHeld2
          (try simp only [Act.put, zs1, zs2, zs3])
          refine wpAnyH_ready (rs := [4]) (by kernel_rfl) (by simp) ?_
          refine ready_at 4 ⟨_, rfl⟩ (fun o ho K hK => ?_) AllReadyH.nil
          simp only [zg1, zg2, zg3, zg4] at ho
          subst ho
          go_simp
          refine hK.out _ _ (hS _ (hf79.below hal9)) (fun hHeld2 => ?_)
          replace hHeld := hHeld2
          clear hK K hHeld2
          (try simp only [Act.put, zs1, zs2, zs3])
          refine take_at 5 (by kernel_rfl) (by kernel_rfl) (by kernel_rfl) (fun _ _ d _ _ h => by cases d <;> exact h) ⟨_, rfl⟩ (by assumption) (fun o ho => ?_)
          simp only [zg1, zg2, zg3, zg4] at ho
          subst ho
          refine ⟨?_, ⟨by rfl, ?_⟩, ?_⟩
          rotate_left
          · intro w hSw
            (try dsimp only at hSw)
            (go_simp; try with_reducible rfl)
          (try simp only [Act.put, zs1, zs2, zs3])
          refine wpAnyH_ready (rs := [6]) (by kernel_rfl) (by simp) ?_
          refine ready_at 6 ⟨_, rfl⟩ (fun o ho K hK => ?_) AllReadyH.nil
          simp only [zg1, zg2, zg3, zg4] at ho
          subst ho
          go_simp
          refine hK.out _ _ (hS _ ((hf79.below hal9).step (fr6 _ _ _ _ _ _ _ _) (fun k hk => .inl (.inr hk)))) (fun _ => ?_)
          clear hK K
          refine wpAnyH_done (by kernel_rfl) ?_ _
          (try dsimp only)
          go_wp2_with fail
          refine bodyPost_ret (results_tr rfl _ _ _ _ _ _ _ _ _ rfl (HPB9.out.set6 _ _ _ _ _ _)) rfl ?_
          exact ans_two (E := N0) (b := b2) (lo := w6.heap.size) (m := w7.heap.size) (Nat.le_of_eq HB2.out.symm) (by have := HSZ.out; omega) (.inl (by have := HB2.out; have := HSZ.out; omega)) ((hgtz.later (Below.refl _ _).drew (by omega)).fr hf9 (fun b hb e => hpd.2.1 (e ▸ hb)) (fun b h1 _ _ e => by have : b = R := e; have := HSZ.out; omega) (by show w7.heap.size ≤ wz.heap.size; omega)) (by show w7.heap.size ≤ wz.heap.size; omega) ((hfz.below (Below.refl _ _).drew).step hf9 (fun _ hk => .inl hk)) hp9 hg9 id (fr6 _ _ _ _ _ _ _ _) H0.out hRl
       ·
        have d1 : decide (a3 < n) = false := decide_eq_false hi
        have hsn : P.sign (ws.drop a3) = 0 := by
         rw [List.drop_eq_nil_of_le (by rw [HN.out]; omega)]
         rfl
        have hXe := HXE.out
        rw [hsn, if_pos rfl] at hXe
        have HXW := Lib.hid hXe
        clear hsn HXE hwd hXe
        go_upto_region 19 with (fail)
        go_quiet (fail)
        revert nq
        intro na
        go_wp2_with (go_at_call 39; refine (wrong_r (hp8.below (below_drewN (Below.refl _ _) na))).mono ?_; rintro ex w9 ⟨cd, p, hwr, rfl, hb9⟩)
        rw [← HXW.out, hwr]
        exact ⟨rfl, rfl, (hf8.below (below_drewN (Below.refl _ _) na)).below hb9⟩
end
end
end Go.Proofs.YthiadenmljbdaaaGreatDoor

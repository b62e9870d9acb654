/-
  l: the parts QRow QImpl.
-/
import Derived.Test.YthiadenmljbdaaaGreatDoorB14l
import Derived.Deep.Cut
namespace Go.Proofs.YthiadenmljbdaaaGreatDoor
section
open Go.RowKit
attribute [local go_sem] Oper.semAt_some
section
variable {R0 : Nat → Prop} {A : Option Addr} {c e : Nat} {ws : List Wd}
theorem gots_step {wr w3 w4 : World} {R : Nat} {v3 : Value} {m : Nat} {ks : List T} {rs : List Kc} {u : T} {d : Kc} {S S2 g' : Nat} (ho : OutK wr m v3 rs) (hn : ∀ g, v3.ownBlock = some g → T.GotEs wr R0 N0 ks g m wr.heap.size rs) (hl : rs.length = ks.length) (hm : m ≤ wr.heap.size)
    (h1 : Fr wr w3 (fun k => k = R)) (hR : R < m) (hk1 : Kp R0 wr w3) (hk2 : Kp R0 w3 w4) (hS : wr.heap.size ≤ S) (hu : T.GotE w3 R0 N0 u S S2 d) (hS2 : S2 ≤ w3.heap.size) (hg : w3.grownBy w4 v3.ownBlock) (hor : v3.ownBlock = some g' ∨ w3.heap.size ≤ g') : T.GotEs w4 R0 N0 (ks ++ [u]) g' m w4.heap.size (rs ++ [d]) := by
  have hsz := hg.size
  have hle := hu.le
  rcases ho with ⟨rfl, rfl⟩ | ⟨g0, cap, cur, rfl, hb, hc, _⟩
  ·
   have hk : ks = [] := List.eq_nil_of_length_eq_zero (by rw [← hl]; rfl)
   subst hk
   have hg' : w3.heap.size ≤ g' := by
    rcases hor with h | h
    · cases h
    · exact h
   have hu' := T.GotE.keep (w' := w4) (E' := N0) hk2 u S S2 d hu (fun b hb1 hb2 _ => hg.block b (by omega) (by simp [Value.ownBlock])) (fun _ _ _ h => h)
   simp only [List.nil_append, T.GotEs]
   exact ⟨d, [], S, S2, rfl, by omega, hle, .inr (by omega), hu', rfl, by omega⟩
  ·
   have hlt : g0 < wr.heap.size := (Array.getElem?_eq_some_iff.1 hc).1
   have hsz1 := h1.size
   have hnn := hn g0 rfl
   have hne : ∀ b, b ≠ g0 → some b ≠ (Value.slice (some ⟨g0, 0, none⟩) rs.length cap).ownBlock := fun b hb e => hb (by simpa [Value.ownBlock] using e)
   have hk := T.GotEs.keep (w' := w4) (E' := N0) (hk1.trans hk2) ks g0 m wr.heap.size rs hnn (fun b hb1 hb2 hb3 _ => (hg.block b (by omega) (hne b hb3)).trans (h1.block b hb2 (by show ¬ b = R; omega))) (fun _ _ _ h => h)
   have hu' := T.GotE.keep (w' := w4) (E' := N0) hk2 u S S2 d hu (fun b hb1 hb2 _ => hg.block b (by omega) (hne b (by omega))) (fun _ _ _ h => h)
   have hk2 := T.GotEs.hi ks g0 m _ S rs hk hS
   refine T.GotEs.hi _ g' m S2 w4.heap.size _ ?_ (by omega)
   rcases hor with h | h
   · have e : g0 = g' := by simpa [Value.ownBlock] using h
     subst e
     exact T.GotEs.snoc ks g0 m S S2 rs u d hk2 hu' (.inl (by omega))
   · exact T.GotEs.snoc ks g' m S S2 rs u d (T.GotEs.apart ks g0 g' m S rs hk2 (by omega)) hu' (.inr (by omega))
theorem got_row {w : World} {k : Int} {m n cp : Nat} {B : Option Addr} {ks : List T} {rs : List Kc} (ho : OutK w m (.slice B n cp) rs) (hn : ∀ g, (Value.slice B n cp).ownBlock = some g → T.GotEs w R0 N0 ks g m w.heap.size rs) (hl : rs.length = ks.length) (h0 : 0 < ks.length) (hm : m ≤ w.heap.size) :
    T.GotE w R0 N0 (P.nd k ks) m w.heap.size (tc k ⟨#[]⟩ none 0 0 false none 0 0 B n cp) := by
  rcases ho with ⟨_, rfl⟩ | ⟨g0, cap, cur, e, hb, hc, h1, h2, h3⟩
  · simp at hl; omega
  · injection e with e1 e2 e3
    subst e1; subst e3
    have hlt : g0 < w.heap.size := (Array.getElem?_eq_some_iff.1 hc).1
    rw [e2, hl]
    simp only [P.nd, T.GotE]
    exact ⟨none, 0, none, 0, _, _, rfl, hm, NmE.nil _ _ _ _, Lm.nil _ _, .inr ⟨g0, rs, rfl, ⟨hb, hlt, id⟩, ⟨cur, hc, by omega, h2, hl, by rw [← hl]; exact h3⟩, hn g0 rfl⟩⟩
set_option maxRecDepth 100000 in
set_option maxHeartbeats 6400000 in
theorem row_and (f : Nat) (hop : ∀ f', f' ≤ f → Rule R0 A c ws e f' .notted 109) (w : World) (R a : Nat) (hp : Pa w R R0 A c ws e a) (h0 : ∀ b, R0 b → b < w.heap.size) (hX : P.G e (f + 1) .anded (ws.drop a) ≠ .out) :
    Calls Tryz.prog 107 #[.pointer (some ⟨R, 0, none⟩), .int .i64 17, .string ⟨#[97, 110, 100]⟩, .func (.func 109) #[.pointer (some ⟨R, 0, none⟩)] #[]] w (Ans w R R0 A c ws e (P.G e (f + 1) .anded (ws.drop a))) := by
  rw [P.G_succ] at hX ⊢
  obtain ⟨X, hXe⟩ : ∃ X, P.step e (P.G e f) .anded (ws.drop a) = X := ⟨_, rfl⟩
  rw [hXe] at hX ⊢
  obtain ⟨W, hW, pb, hbW⟩ := made_blk w tz 28
  obtain ⟨b2, hb2⟩ : ∃ b, b = w.heap.size := ⟨_, rfl⟩
  have hRl : R < w.heap.size := hp.1.lt
  have hsz : W.heap.size = w.heap.size + 1 := by rw [hW]; simp
  have hp0 := hp.below hbW
  have hf0 : Fr w W (fun k => k = R) := Fr.of_below hbW
  have hne : ¬ b2 = R := by omega
  have pb0 : Blk W b2 28 tz := by rw [hb2]; exact pb
  have HW := Lib.hid hW
  have H0 := Lib.hid h0
  have HB2 := Lib.hid hb2
  have HSZ := Lib.hid hsz
  clear hp hbW pb hW h0 hsz hb2
  have HOP := Lib.hid hop
  clear hop
  have hs0 : W.heap.size ≤ W.heap.size := Nat.le_refl _
  have hWR : R < W.heap.size := by have := HSZ.out; omega
  have hXe : (P.G e f .notted (ws.drop a)).bind (fun t r => if P.isW ⟨#[97, 110, 100]⟩ r = true then P.G e f (.andL [t]) r else .ok t r) = X := hXe
  cases hY : P.G e f .notted (ws.drop a) with
  | out => rw [hY] at hXe; exact absurd hXe.symm hX
  | bad cd p =>
   rw [hY] at hXe
   have hXe : P.Rd.bad cd p = X := hXe
   subst hXe
   have HY := Lib.hid hY
   clear hX hY
   go_enter Tryz.func107, Tryz.ntmps107
   go_upto_region 1 with (fail)
   rw [← HW.out, ← HB2.out]
   go_wp2_with (go_at_call 109; refine ((HOP.out f (by omega)).bad hp0 (hf0.lt H0.out) HY.out).mono ?_; rintro ex w9 ⟨rfl, hf9⟩)
   exact ⟨rfl, rfl, hf0.step hf9 (fun _ hk => .inl hk)⟩
  | ok u r =>
   rw [hY] at hXe
   have hXe : (if P.isW ⟨#[97, 110, 100]⟩ r = true then P.G e f (.andL [u]) r else .ok u r) = X := hXe
   have HY := Lib.hid hY
   clear hY
   go_enter Tryz.func107, Tryz.ntmps107
   go_upto_region 1 with (fail)
   rw [← HW.out, ← HB2.out]
   go_upto_region 2 with (go_at_call 109; refine ((HOP.out f (by omega)).ok hp0 (hf0.lt H0.out) HY.out).mono ?_; rintro ex w3 ⟨v, a3, rfl, rfl, hp3, hgt, hg3⟩; obtain ⟨F1, f1, F2, f2, F3, f3, rfl⟩ := hgt.form)
   obtain ⟨w4, hw4, pc4, hb4⟩ := made_blk w3 #[.int .i64 u.k, .string u.nm, .slice F1 u.ns.length f1, .bool u.ng, .slice F2 u.mg.length f2, .slice F3 u.ks.length f3] 28
   obtain ⟨b9, hb9⟩ : ∃ b, b = w3.heap.size := ⟨_, rfl⟩
   rw [← hw4, ← hb9]
   rw [← hb9] at pc4
   have hf3 := hf0.step hg3 (fun _ hk => .inl hk)
   have pb3 := hg3.blk pb0 hne
   have hp4 := hp3.below hb4
   have hf4 := hf3.below hb4
   have pb4 := pb3.below hb4
   have hgt4 := hgt.later hb4 (Nat.le_refl _)
   have hs3 := hg3.size
   have hs4 := hb4.size
   have hA4 := hp4.2.2.2.1
   have hgl := (P.G_len _ _ _ _ _ _ HY.out).2 rfl
   simp only [List.length_drop] at hgl
   have HXE := Lib.hid hXe
   clear hw4 hb9 hXe hp3 hb4 hgt HY
   by_cases c1 : P.isW ⟨#[97, 110, 100]⟩ (ws.drop a3) = true
   ·
    have hXe := HXE.out
    rw [if_pos c1] at hXe
    have HXE := Lib.hid hXe
    have hpk := peek_r hp4 ⟨#[97, 110, 100]⟩ 0 (by omega) 0 rfl
    rw [Nat.add_zero, c1] at hpk
    have HPK := Lib.hid hpk
    clear hpk hXe c1
    go_upto_region 4 with (go_at_call 110; refine HPK.out.mono ?_; rintro ex w5 ⟨rfl, hb5⟩)
    have hp5 := hp4.below hb5
    have hf5 := hf4.below hb5
    have pb5 := pb4.below hb5
    have hgt5 := hgt4.later hb5 hs4
    have pc5 := pc4.below hb5
    have hs5 := hb5.size
    obtain ⟨y0, y1, y2, y3, y4, y5⟩ := pc5.six
    go_wp2_with fail
    clear y0 y1 y2 y3 y4 y5
    have hal := below_alloc1 w5 (row1 (tc u.k u.nm F1 u.ns.length f1 u.ng F2 u.mg.length f2 F3 u.ks.length f3))
    have pg := Blk.new w5 28 #[.int .i64 u.k, .string u.nm, .slice F1 u.ns.length f1, .bool u.ng, .slice F2 u.mg.length f2, .slice F3 u.ks.length f3]
    obtain ⟨w6, hw6⟩ : ∃ W, w5.alloc (row1 (tc u.k u.nm F1 u.ns.length f1 u.ng F2 u.mg.length f2 F3 u.ks.length f3)) = W := ⟨_, rfl⟩
    have hsz6 : w6.heap.size = w5.heap.size + 1 := by rw [← hw6]; simp
    obtain ⟨g6, hg6⟩ : ∃ g, w5.heap.size = g := ⟨_, rfl⟩
    rw [hw6] at hal pg ⊢
    rw [hg6] at pg ⊢
    have hp6 := hp5.below hal
    have hf6 := hf5.below hal
    have pb6 := pb5.below hal
    have hgt6 := hgt5.later hal (by omega)
    have hok6 : OutK w6 W.heap.size (.slice (some ⟨g6, 0, none⟩) 1 1) [(tc u.k u.nm F1 u.ns.length f1 u.ng F2 u.mg.length f2 F3 u.ks.length f3)] := .inr ⟨g6, 1, _, rfl, by omega, pg, Nat.le_refl _, by decide, by simp [kcs, kcl, kzs, Builtin.zeroCells]⟩
    have hgs6 : ∀ g, (Value.slice (some ⟨g6, 0, none⟩) 1 1).ownBlock = some g → T.GotEs w6 R0 N0 [u] g W.heap.size w6.heap.size [(tc u.k u.nm F1 u.ns.length f1 u.ng F2 u.mg.length f2 F3 u.ks.length f3)] := fun g e => by
     have e : g6 = g := by simpa [Value.ownBlock] using e
     subst e
     have := hgt6.le
     simp only [T.GotEs]
     exact ⟨_, [], W.heap.size, w3.heap.size, rfl, Nat.le_refl _, this, .inr (by omega), hgt6, rfl, by omega⟩
    obtain ⟨i0, hinfo, iz0, iz1, iz2⟩ := tree_info
    clear hw6 hg6 hgt4 hgt5 pc4 pc5 hb5 pg hal hgt6
    clear hp4 hf4 pb4 hp5 hf5 pb5 hf3 pb3
    go_loopg [10] (ws.length + 1 - a3) (fun gk v10 wr => ∃ (a1 m1 : Nat) (ks : List T) (rs : List Kc), gk + a1 = ws.length + 1 ∧ m1 ≤ f ∧ X = P.G e m1 (.andL ks) (ws.drop a1) ∧ OutK wr W.heap.size v10 rs ∧ rs.length = ks.length ∧ 0 < ks.length ∧ ks.length ≤ a1 ∧ (∀ g, v10.ownBlock = some g → T.GotEs wr R0 N0 ks g W.heap.size wr.heap.size rs) ∧ Pa wr R R0 A c ws e a1 ∧ Fr w wr (fun k => k = R) ∧ Blk wr b2 28 tz ∧ W.heap.size ≤ wr.heap.size)
    case atStart => exact ⟨a3, f, [u], _, by omega, Nat.le_refl _, HXE.out.symm, hok6, rfl, by simp, by simp; omega, hgs6, hp6, hf6, pb6, by omega⟩
    case round =>
     clear hok6 hgs6 hp6 hf6 pb6 hsz6 hs5 hs4 hs3 hA4 hgl HXE
     obtain ⟨a1, m1, ks, rs, hgk, hm1, hXe, hok, hrl, hk0, hka, hgs, hp7, hf7, pb7, hs7⟩ := hrel
     obtain ⟨BB, cp, rfl⟩ := hok.slice
     have HOK := Lib.hid hok
     have HGS := Lib.hid hgs
     have HRL := Lib.hid hrl
     have HGK := Lib.hid hgk
     clear hok hgs hrl hgk
     cases m1 with
     | zero => exact absurd hXe hX
     | succ m2 =>
      rw [P.G_succ] at hXe
      by_cases c2 : P.isW ⟨#[97, 110, 100]⟩ (ws.drop a1) = true
      ·
       simp only [P.step, c2, if_true, tail_drop] at hXe
       have hlt := isW_lt c2
       have Hc2 := Lib.hid c2
       clear c2
       cases hY : P.G e m2 .notted (ws.drop (a1 + 1)) with
       | out => rw [hY] at hXe; exact absurd hXe hX
       | bad cd p =>
        rw [hY] at hXe
        have HXB := Lib.hid hXe
        clear hXe
        have HY := Lib.hid hY
        clear hX hY
        go_upto_region 6 with (go_at_call 68; refine (is_yes hp7 _ Hc2.out).mono ?_; rintro ex w8 ⟨rfl, hp8, hg8⟩)
        have hf8 := hf7.step hg8 (fun _ hk => .inl hk)
        have pb8 := hg8.blk pb7 hne
        go_wp2_with (go_at_call 109; refine ((HOP.out m2 (by omega)).bad hp8 (hf8.lt H0.out) HY.out).mono ?_; rintro ex w9 ⟨rfl, hf9⟩)
        have hA : Ans w R R0 A c ws e (.bad cd p) (.panicked [stopV cd p]) w9 := ⟨rfl, hf8.step hf9 (fun _ hk => .inl hk)⟩
        exact ⟨rfl, HXB.out.symm ▸ hA⟩
       | ok t r =>
        rw [hY] at hXe
        have hXe : X = P.G e m2 (.andL (ks ++ [t])) r := hXe
        subst hXe
        have HY := Lib.hid hY
        clear hX hY
        go_upto_region 6 with (go_at_call 68; refine (is_yes hp7 _ Hc2.out).mono ?_; rintro ex w8 ⟨rfl, hp8, hg8⟩)
        have hf8 := hf7.step hg8 (fun _ hk => .inl hk)
        have pb8 := hg8.blk pb7 hne
        have hs8 := hg8.size
        have hb := hp7.2.2.2.2
        have hlen2 : rs.length < 1048576 := by rw [HRL.out]; omega
        go_wp2_with (first
         | (go_at_call 109; refine ((HOP.out m2 (by omega)).ok hp8 (hf8.lt H0.out) HY.out).mono ?_; rintro ex w9 ⟨v, a9, rfl, rfl, hp9, hgt, hf9⟩; obtain ⟨G1, g1, G2, g2, G3, g3, rfl⟩ := hgt.form; have hal := below_alloc1 w9 (row1 (tc t.k t.nm G1 t.ns.length g1 t.ng G2 t.mg.length g2 G3 t.ks.length g3)); have hs9 := hf9.size; have hf79 := (hg8.step hf9 (fun _ hk => .inl hk)).below hal; have HF79 := Lib.hid hf79; have hsa : w9.heap.size ≤ (w9.alloc (row1 (tc t.k t.nm G1 t.ns.length g1 t.ng G2 t.mg.length g2 G3 t.ks.length g3))).heap.size := hal.size)
         | (at_builtin; refine wpList_append_kid _ rfl (.tmp 23) (.tmp 26) 26 rfl W.heap.size i0 Tryz.underlying26 hinfo iz0 iz1 iz2 _ rs rfl (HOK.out.far hs7 (fun b h1 h2 => HF79.out.block b h2 (by show ¬ b = R; omega))) _ 1 (tc t.k t.nm G1 t.ns.length g1 t.ng G2 t.mg.length g2 G3 t.ks.length g3) rfl (kid_cells (Blk.new _ _ _)) (tc_one _ _ _ _ _ _ _ _ _ _ _ _) hlen2 (Nat.le_trans (show W.heap.size ≤ w9.heap.size by omega) hal.size) ?_; intro g' cap w10 ho10 hg10 hor))
        have hA9 := hp9.2.2.2.1
        have hgl := (P.G_len _ _ _ _ _ _ HY.out).1
        simp only [List.length_drop] at hgl
        have hob : ∀ q, (Value.slice BB rs.length cp).ownBlock = some q → W.heap.size ≤ q := fun q h => HOK.out.base_le q h
        have hfg : Fr (w9.alloc (row1 (tc t.k t.nm G1 t.ns.length g1 t.ng G2 t.mg.length g2 G3 t.ks.length g3))) w10 (fun q => (Value.slice BB rs.length cp).ownBlock = some q) := (Fr.refl _ _).grown hg10 (fun q h => .inl h)
        have hk79 : Kp R0 wr (w9.alloc (row1 (tc t.k t.nm G1 t.ns.length g1 t.ng G2 t.mg.length g2 G3 t.ks.length g3))) := .of_fr HF79.out (fun b hb e => hp7.2.1 (e ▸ hb))
        have hkg : Kp R0 (w9.alloc (row1 (tc t.k t.nm G1 t.ns.length g1 t.ng G2 t.mg.length g2 G3 t.ks.length g3))) w10 := .of_fr hfg (fun b hb e => by have := H0.out b hb; have := hob b e; have := HSZ.out; omega)
        have hss := hfg.size
        have hfa := (hf8.step hf9 (fun _ hk => .inl hk)).below hal
        have hst := gots_step (g' := g') HOK.out HGS.out HRL.out hs7 HF79.out hWR hk79 hkg hs8 (hgt.later hal (Nat.le_refl _)) hal.size hg10 hor
        go_roundg (ws.length + 1 - a9)
        case measure => have := HGK.out; omega
        case rel =>
         refine ⟨a9, m2, ks ++ [t], _, by omega, by omega, rfl, ho10, by simp [HRL.out], by simp, by simp; omega, (fun g e => (show g' = g by simpa [Value.ownBlock] using e) ▸ hst), ?_, ?_, ?_, by omega⟩
         · exact ⟨hfg.blk (hp9.below hal).1 (fun e => by have := hob R e; omega), hp9.2.1, (hp9.below hal).2.2.1.keep hkg, hp9.2.2.2⟩
         · exact hfa.step hfg (fun q e => .inr (by have := hob q e; have := HSZ.out; omega))
         · exact hfg.blk ((hf9.blk pb8 hne).below hal) (fun e => by have := hob b2 e; have := HB2.out; have := HSZ.out; omega)
      ·
       rw [Bool.not_eq_true] at c2
       simp only [P.step, c2, Bool.false_eq_true, if_false] at hXe
       subst hXe
       have Hc2 := Lib.hid c2
       clear c2 hX
       go_upto_region 7 with (go_at_call 68; refine (is_no hp7 _ Hc2.out).mono ?_; rintro ex w8 ⟨rfl, hb8⟩)
       have hp8 := hp7.below hb8
       have hf8 := hf7.below hb8
       have HPB8 := Lib.hid (pb7.below hb8)
       have hs8 := hb8.size
       have qx := HPB8.out.open6
       go_wp2_with fail
       refine bodyPost_ret (results_tr rfl _ _ _ _ _ _ _ _ _ rfl (HPB8.out.set6 _ _ _ _ _ _)) rfl ?_
       have hgr := got_row (k := 17) HOK.out HGS.out HRL.out hk0 hs7
       exact ans_ok (E := N0) (b := b2) (lo := W.heap.size) (Nat.le_of_eq HB2.out.symm) (by have := HSZ.out; omega) (.inl (by have := HB2.out; have := HSZ.out; omega)) hf8 hp8 ((hgr.later hb8 (Nat.le_refl _)).wide (Nat.le_refl _) hs8) (fr6 _ _ _ _ _ _ _ _) H0.out hRl
   ·
    rw [Bool.not_eq_true] at c1
    have hXe := HXE.out
    rw [c1, if_neg (by decide)] at hXe
    subst hXe
    have hpk := peek_r hp4 ⟨#[97, 110, 100]⟩ 0 (by omega) 0 rfl
    rw [Nat.add_zero, c1] at hpk
    have HPK := Lib.hid hpk
    clear hpk c1 HXE
    go_upto_region 3 with (go_at_call 110; refine HPK.out.mono ?_; rintro ex w5 ⟨rfl, hb5⟩)
    have hp5 := hp4.below hb5
    have hf5 := hf4.below hb5
    have HPB5 := Lib.hid (pb4.below hb5)
    have pc5 := pc4.below hb5
    have hgt5 := hgt4.later hb5 hs4
    have hs5 := hb5.size
    have qx := HPB5.out.open6
    obtain ⟨y0, y1, y2, y3, y4, y5⟩ := pc5.six
    go_wp2_with fail
    refine bodyPost_ret (results_tr rfl _ _ _ _ _ _ _ _ _ rfl (HPB5.out.set6 _ _ _ _ _ _)) rfl ?_
    exact ans_ok (E := N0) (b := b2) (lo := W.heap.size) (Nat.le_of_eq HB2.out.symm) (by have := HSZ.out; omega) (.inl (by have := HB2.out; have := HSZ.out; omega)) hf5 hp5 (hgt5.wide (Nat.le_refl _) (by omega)) (fr6 _ _ _ _ _ _ _ _) H0.out hRl
def CloR (R0 : Nat → Prop) (A : Option Addr) (c : Nat) (ws : List Wd) (e f : Nat) : Prop :=
 ∀ (w : World) (R a Bx : Nat), Pa w R R0 A c ws e a → (∀ b, R0 b → b < w.heap.size) → Blk w Bx 64 #[.pointer (some ⟨R, 0, none⟩)] → P.G e f .anded (ws.drop a) ≠ .out → Calls Tryz.prog 108 #[.pointer (some ⟨Bx, 0, none⟩)] w (Ans w R R0 A c ws e (P.G e f .anded (ws.drop a)))
theorem CloR.ok {w : World} {R a Bx f : Nat} {t : T} {r : List Wd} (h : CloR R0 A c ws e f) (hp : Pa w R R0 A c ws e a) (h0 : ∀ b, R0 b → b < w.heap.size) (hx : Blk w Bx 64 #[.pointer (some ⟨R, 0, none⟩)]) (hX : P.G e f .anded (ws.drop a) = .ok t r) :
    Calls Tryz.prog 108 #[.pointer (some ⟨Bx, 0, none⟩)] w fun ex w' => ∃ v a', ex = .returned (kv v) ∧ r = ws.drop a' ∧ Pa w' R R0 A c ws e a' ∧ T.Got w' R0 t w.heap.size w'.heap.size v ∧ Fr w w' (fun k => k = R) := by
  have := h w R a Bx hp h0 hx (by rw [hX]; intro h; cases h)
  rw [hX] at this
  exact this
theorem CloR.bad {w : World} {R a Bx f : Nat} {cd p : Nat} (h : CloR R0 A c ws e f) (hp : Pa w R R0 A c ws e a) (h0 : ∀ b, R0 b → b < w.heap.size) (hx : Blk w Bx 64 #[.pointer (some ⟨R, 0, none⟩)]) (hX : P.G e f .anded (ws.drop a) = .bad cd p) :
    Calls Tryz.prog 108 #[.pointer (some ⟨Bx, 0, none⟩)] w fun ex w' => ex = .panicked [stopV cd p] ∧ Fr w w' (fun k => k = R) := by
  have := h w R a Bx hp h0 hx (by rw [hX]; intro h; cases h)
  rw [hX] at this
  exact this
set_option maxRecDepth 100000 in
set_option maxHeartbeats 6400000 in
theorem row_or (f : Nat) (hop : ∀ f', f' ≤ f → CloR R0 A c ws e f') (w : World) (R a : Nat) (Bx : Nat) (hp : Pa w R R0 A c ws e a) (h0 : ∀ b, R0 b → b < w.heap.size) (hbx : Blk w Bx 64 #[.pointer (some ⟨R, 0, none⟩)]) (hxR : ¬ Bx = R) (hX : P.G e (f + 1) .ored (ws.drop a) ≠ .out) :
    Calls Tryz.prog 107 #[.pointer (some ⟨R, 0, none⟩), .int .i64 18, .string ⟨#[111, 114]⟩, .func (.func 108) #[] #[.pointer (some ⟨Bx, 0, none⟩)]] w (Ans w R R0 A c ws e (P.G e (f + 1) .ored (ws.drop a))) := by
  rw [P.G_succ] at hX ⊢
  obtain ⟨X, hXe⟩ : ∃ X, P.step e (P.G e f) .ored (ws.drop a) = X := ⟨_, rfl⟩
  rw [hXe] at hX ⊢
  obtain ⟨W, hW, pb, hbW⟩ := made_blk w tz 28
  obtain ⟨b2, hb2⟩ : ∃ b, b = w.heap.size := ⟨_, rfl⟩
  have hRl : R < w.heap.size := hp.1.lt
  have hsz : W.heap.size = w.heap.size + 1 := by rw [hW]; simp
  have hp0 := hp.below hbW
  have hf0 : Fr w W (fun k => k = R) := Fr.of_below hbW
  have hne : ¬ b2 = R := by omega
  have pb0 : Blk W b2 28 tz := by rw [hb2]; exact pb
  have HW := Lib.hid hW
  have H0 := Lib.hid h0
  have HB2 := Lib.hid hb2
  have HSZ := Lib.hid hsz
  clear hp hbW pb hW h0 hsz hb2
  have px0 : Blk W Bx 64 #[.pointer (some ⟨R, 0, none⟩)] := by rw [HW.out]; exact hbx.below (below_alloc1 _ _)
  have hxW : Bx < W.heap.size := px0.lt
  have HOP := Lib.hid hop
  clear hop
  have hs0 : W.heap.size ≤ W.heap.size := Nat.le_refl _
  have hWR : R < W.heap.size := by have := HSZ.out; omega
  have hXe : (P.G e f .anded (ws.drop a)).bind (fun t r => if P.isW ⟨#[111, 114]⟩ r = true then P.G e f (.orL [t]) r else .ok t r) = X := hXe
  cases hY : P.G e f .anded (ws.drop a) with
  | out => rw [hY] at hXe; exact absurd hXe.symm hX
  | bad cd p =>
   rw [hY] at hXe
   have hXe : P.Rd.bad cd p = X := hXe
   subst hXe
   have HY := Lib.hid hY
   clear hX hY
   go_enter Tryz.func107, Tryz.ntmps107
   go_upto_region 1 with (fail)
   rw [← HW.out, ← HB2.out]
   go_wp2_with (go_at_call 108; refine ((HOP.out f (by omega)).bad hp0 (hf0.lt H0.out) px0 HY.out).mono ?_; rintro ex w9 ⟨rfl, hf9⟩)
   exact ⟨rfl, rfl, hf0.step hf9 (fun _ hk => .inl hk)⟩
  | ok u r =>
   rw [hY] at hXe
   have hXe : (if P.isW ⟨#[111, 114]⟩ r = true then P.G e f (.orL [u]) r else .ok u r) = X := hXe
   have HY := Lib.hid hY
   clear hY
   go_enter Tryz.func107, Tryz.ntmps107
   go_upto_region 1 with (fail)
   rw [← HW.out, ← HB2.out]
   go_upto_region 2 with (go_at_call 108; refine ((HOP.out f (by omega)).ok hp0 (hf0.lt H0.out) px0 HY.out).mono ?_; rintro ex w3 ⟨v, a3, rfl, rfl, hp3, hgt, hg3⟩; obtain ⟨F1, f1, F2, f2, F3, f3, rfl⟩ := hgt.form)
   obtain ⟨w4, hw4, pc4, hb4⟩ := made_blk w3 #[.int .i64 u.k, .string u.nm, .slice F1 u.ns.length f1, .bool u.ng, .slice F2 u.mg.length f2, .slice F3 u.ks.length f3] 28
   obtain ⟨b9, hb9⟩ : ∃ b, b = w3.heap.size := ⟨_, rfl⟩
   rw [← hw4, ← hb9]
   rw [← hb9] at pc4
   have hf3 := hf0.step hg3 (fun _ hk => .inl hk)
   have pb3 := hg3.blk pb0 hne
   have px3 := hg3.blk px0 hxR
   have hp4 := hp3.below hb4
   have hf4 := hf3.below hb4
   have pb4 := pb3.below hb4
   have px4 := px3.below hb4
   have hgt4 := hgt.later hb4 (Nat.le_refl _)
   have hs3 := hg3.size
   have hs4 := hb4.size
   have hA4 := hp4.2.2.2.1
   have hgl := (P.G_len _ _ _ _ _ _ HY.out).2 rfl
   simp only [List.length_drop] at hgl
   have HXE := Lib.hid hXe
   clear hw4 hb9 hXe hp3 hb4 hgt HY
   by_cases c1 : P.isW ⟨#[111, 114]⟩ (ws.drop a3) = true
   ·
    have hXe := HXE.out
    rw [if_pos c1] at hXe
    have HXE := Lib.hid hXe
    have hpk := peek_r hp4 ⟨#[111, 114]⟩ 0 (by omega) 0 rfl
    rw [Nat.add_zero, c1] at hpk
    have HPK := Lib.hid hpk
    clear hpk hXe c1
    go_upto_region 4 with (go_at_call 110; refine HPK.out.mono ?_; rintro ex w5 ⟨rfl, hb5⟩)
    have hp5 := hp4.below hb5
    have hf5 := hf4.below hb5
    have pb5 := pb4.below hb5
    have px5 := px4.below hb5
    have hgt5 := hgt4.later hb5 hs4
    have pc5 := pc4.below hb5
    have hs5 := hb5.size
    obtain ⟨y0, y1, y2, y3, y4, y5⟩ := pc5.six
    go_wp2_with fail
    clear y0 y1 y2 y3 y4 y5
    have hal := below_alloc1 w5 (row1 (tc u.k u.nm F1 u.ns.length f1 u.ng F2 u.mg.length f2 F3 u.ks.length f3))
    have pg := Blk.new w5 28 #[.int .i64 u.k, .string u.nm, .slice F1 u.ns.length f1, .bool u.ng, .slice F2 u.mg.length f2, .slice F3 u.ks.length f3]
    obtain ⟨w6, hw6⟩ : ∃ W, w5.alloc (row1 (tc u.k u.nm F1 u.ns.length f1 u.ng F2 u.mg.length f2 F3 u.ks.length f3)) = W := ⟨_, rfl⟩
    have hsz6 : w6.heap.size = w5.heap.size + 1 := by rw [← hw6]; simp
    obtain ⟨g6, hg6⟩ : ∃ g, w5.heap.size = g := ⟨_, rfl⟩
    rw [hw6] at hal pg ⊢
    rw [hg6] at pg ⊢
    have hp6 := hp5.below hal
    have hf6 := hf5.below hal
    have pb6 := pb5.below hal
    have px6 := px5.below hal
    have hgt6 := hgt5.later hal (by omega)
    have hok6 : OutK w6 W.heap.size (.slice (some ⟨g6, 0, none⟩) 1 1) [(tc u.k u.nm F1 u.ns.length f1 u.ng F2 u.mg.length f2 F3 u.ks.length f3)] := .inr ⟨g6, 1, _, rfl, by omega, pg, Nat.le_refl _, by decide, by simp [kcs, kcl, kzs, Builtin.zeroCells]⟩
    have hgs6 : ∀ g, (Value.slice (some ⟨g6, 0, none⟩) 1 1).ownBlock = some g → T.GotEs w6 R0 N0 [u] g W.heap.size w6.heap.size [(tc u.k u.nm F1 u.ns.length f1 u.ng F2 u.mg.length f2 F3 u.ks.length f3)] := fun g e => by
     have e : g6 = g := by simpa [Value.ownBlock] using e
     subst e
     have := hgt6.le
     simp only [T.GotEs]
     exact ⟨_, [], W.heap.size, w3.heap.size, rfl, Nat.le_refl _, this, .inr (by omega), hgt6, rfl, by omega⟩
    obtain ⟨i0, hinfo, iz0, iz1, iz2⟩ := tree_info
    clear hw6 hg6 hgt4 hgt5 pc4 pc5 hb5 pg hal hgt6
    clear hp4 hf4 pb4 hp5 hf5 pb5 hf3 pb3 px3 px4 px5
    go_loopg [10] (ws.length + 1 - a3) (fun gk v10 wr => ∃ (a1 m1 : Nat) (ks : List T) (rs : List Kc), gk + a1 = ws.length + 1 ∧ m1 ≤ f ∧ X = P.G e m1 (.orL ks) (ws.drop a1) ∧ OutK wr W.heap.size v10 rs ∧ rs.length = ks.length ∧ 0 < ks.length ∧ ks.length ≤ a1 ∧ (∀ g, v10.ownBlock = some g → T.GotEs wr R0 N0 ks g W.heap.size wr.heap.size rs) ∧ Pa wr R R0 A c ws e a1 ∧ Fr w wr (fun k => k = R) ∧ Blk wr b2 28 tz ∧ W.heap.size ≤ wr.heap.size ∧ Blk wr Bx 64 #[.pointer (some ⟨R, 0, none⟩)])
    case atStart => exact ⟨a3, f, [u], _, by omega, Nat.le_refl _, HXE.out.symm, hok6, rfl, by simp, by simp; omega, hgs6, hp6, hf6, pb6, by omega, px6⟩
    case round =>
     clear hok6 hgs6 hp6 hf6 pb6 hsz6 hs5 hs4 hs3 hA4 hgl HXE px6
     obtain ⟨a1, m1, ks, rs, hgk, hm1, hXe, hok, hrl, hk0, hka, hgs, hp7, hf7, pb7, hs7, px7⟩ := hrel
     obtain ⟨BB, cp, rfl⟩ := hok.slice
     have HOK := Lib.hid hok
     have HGS := Lib.hid hgs
     have HRL := Lib.hid hrl
     have HGK := Lib.hid hgk
     clear hok hgs hrl hgk
     cases m1 with
     | zero => exact absurd hXe hX
     | succ m2 =>
      rw [P.G_succ] at hXe
      by_cases c2 : P.isW ⟨#[111, 114]⟩ (ws.drop a1) = true
      ·
       simp only [P.step, c2, if_true, tail_drop] at hXe
       have hlt := isW_lt c2
       have Hc2 := Lib.hid c2
       clear c2
       cases hY : P.G e m2 .anded (ws.drop (a1 + 1)) with
       | out => rw [hY] at hXe; exact absurd hXe hX
       | bad cd p =>
        rw [hY] at hXe
        have HXB := Lib.hid hXe
        clear hXe
        have HY := Lib.hid hY
        clear hX hY
        go_upto_region 6 with (go_at_call 68; refine (is_yes hp7 _ Hc2.out).mono ?_; rintro ex w8 ⟨rfl, hp8, hg8⟩)
        have hf8 := hf7.step hg8 (fun _ hk => .inl hk)
        have pb8 := hg8.blk pb7 hne
        have px8 := hg8.blk px7 hxR
        go_wp2_with (go_at_call 108; refine ((HOP.out m2 (by omega)).bad hp8 (hf8.lt H0.out) px8 HY.out).mono ?_; rintro ex w9 ⟨rfl, hf9⟩)
        have hA : Ans w R R0 A c ws e (.bad cd p) (.panicked [stopV cd p]) w9 := ⟨rfl, hf8.step hf9 (fun _ hk => .inl hk)⟩
        exact ⟨rfl, HXB.out.symm ▸ hA⟩
       | ok t r =>
        rw [hY] at hXe
        have hXe : X = P.G e m2 (.orL (ks ++ [t])) r := hXe
        subst hXe
        have HY := Lib.hid hY
        clear hX hY
        go_upto_region 6 with (go_at_call 68; refine (is_yes hp7 _ Hc2.out).mono ?_; rintro ex w8 ⟨rfl, hp8, hg8⟩)
        have hf8 := hf7.step hg8 (fun _ hk => .inl hk)
        have pb8 := hg8.blk pb7 hne
        have px8 := hg8.blk px7 hxR
        have hs8 := hg8.size
        have hb := hp7.2.2.2.2
        have hlen2 : rs.length < 1048576 := by rw [HRL.out]; omega
        go_wp2_with (first
         | (go_at_call 108; refine ((HOP.out m2 (by omega)).ok hp8 (hf8.lt H0.out) px8 HY.out).mono ?_; rintro ex w9 ⟨v, a9, rfl, rfl, hp9, hgt, hf9⟩; obtain ⟨G1, g1, G2, g2, G3, g3, rfl⟩ := hgt.form; have hal := below_alloc1 w9 (row1 (tc t.k t.nm G1 t.ns.length g1 t.ng G2 t.mg.length g2 G3 t.ks.length g3)); have hs9 := hf9.size; have hf79 := (hg8.step hf9 (fun _ hk => .inl hk)).below hal; have HF79 := Lib.hid hf79; have hsa : w9.heap.size ≤ (w9.alloc (row1 (tc t.k t.nm G1 t.ns.length g1 t.ng G2 t.mg.length g2 G3 t.ks.length g3))).heap.size := hal.size)
         | (at_builtin; refine wpList_append_kid _ rfl (.tmp 23) (.tmp 26) 26 rfl W.heap.size i0 Tryz.underlying26 hinfo iz0 iz1 iz2 _ rs rfl (HOK.out.far hs7 (fun b h1 h2 => HF79.out.block b h2 (by show ¬ b = R; omega))) _ 1 (tc t.k t.nm G1 t.ns.length g1 t.ng G2 t.mg.length g2 G3 t.ks.length g3) rfl (kid_cells (Blk.new _ _ _)) (tc_one _ _ _ _ _ _ _ _ _ _ _ _) hlen2 (Nat.le_trans (show W.heap.size ≤ w9.heap.size by omega) hal.size) ?_; intro g' cap w10 ho10 hg10 hor))
        have hA9 := hp9.2.2.2.1
        have hgl := (P.G_len _ _ _ _ _ _ HY.out).1
        simp only [List.length_drop] at hgl
        have hob : ∀ q, (Value.slice BB rs.length cp).ownBlock = some q → W.heap.size ≤ q := fun q h => HOK.out.base_le q h
        have hfg : Fr (w9.alloc (row1 (tc t.k t.nm G1 t.ns.length g1 t.ng G2 t.mg.length g2 G3 t.ks.length g3))) w10 (fun q => (Value.slice BB rs.length cp).ownBlock = some q) := (Fr.refl _ _).grown hg10 (fun q h => .inl h)
        have hk79 : Kp R0 wr (w9.alloc (row1 (tc t.k t.nm G1 t.ns.length g1 t.ng G2 t.mg.length g2 G3 t.ks.length g3))) := .of_fr HF79.out (fun b hb e => hp7.2.1 (e ▸ hb))
        have hkg : Kp R0 (w9.alloc (row1 (tc t.k t.nm G1 t.ns.length g1 t.ng G2 t.mg.length g2 G3 t.ks.length g3))) w10 := .of_fr hfg (fun b hb e => by have := H0.out b hb; have := hob b e; have := HSZ.out; omega)
        have hss := hfg.size
        have hfa := (hf8.step hf9 (fun _ hk => .inl hk)).below hal
        have hst := gots_step (g' := g') HOK.out HGS.out HRL.out hs7 HF79.out hWR hk79 hkg hs8 (hgt.later hal (Nat.le_refl _)) hal.size hg10 hor
        go_roundg (ws.length + 1 - a9)
        case measure => have := HGK.out; omega
        case rel =>
         refine ⟨a9, m2, ks ++ [t], _, by omega, by omega, rfl, ho10, by simp [HRL.out], by simp, by simp; omega, (fun g e => (show g' = g by simpa [Value.ownBlock] using e) ▸ hst), ?_, ?_, ?_, by omega, ?_⟩
         · exact ⟨hfg.blk (hp9.below hal).1 (fun e => by have := hob R e; omega), hp9.2.1, (hp9.below hal).2.2.1.keep hkg, hp9.2.2.2⟩
         · exact hfa.step hfg (fun q e => .inr (by have := hob q e; have := HSZ.out; omega))
         · exact hfg.blk ((hf9.blk pb8 hne).below hal) (fun e => by have := hob b2 e; have := HB2.out; have := HSZ.out; omega)
         · exact hfg.blk ((hf9.blk px8 hxR).below hal) (fun e => by have := hob Bx e; omega)
      ·
       rw [Bool.not_eq_true] at c2
       simp only [P.step, c2, Bool.false_eq_true, if_false] at hXe
       subst hXe
       have Hc2 := Lib.hid c2
       clear c2 hX
       go_upto_region 7 with (go_at_call 68; refine (is_no hp7 _ Hc2.out).mono ?_; rintro ex w8 ⟨rfl, hb8⟩)
       have hp8 := hp7.below hb8
       have hf8 := hf7.below hb8
       have HPB8 := Lib.hid (pb7.below hb8)
       have hs8 := hb8.size
       have qx := HPB8.out.open6
       go_wp2_with fail
       refine bodyPost_ret (results_tr rfl _ _ _ _ _ _ _ _ _ rfl (HPB8.out.set6 _ _ _ _ _ _)) rfl ?_
       have hgr := got_row (k := 18) HOK.out HGS.out HRL.out hk0 hs7
       exact ans_ok (E := N0) (b := b2) (lo := W.heap.size) (Nat.le_of_eq HB2.out.symm) (by have := HSZ.out; omega) (.inl (by have := HB2.out; have := HSZ.out; omega)) hf8 hp8 ((hgr.later hb8 (Nat.le_refl _)).wide (Nat.le_refl _) hs8) (fr6 _ _ _ _ _ _ _ _) H0.out hRl
   ·
    rw [Bool.not_eq_true] at c1
    have hXe := HXE.out
    rw [c1, if_neg (by decide)] at hXe
    subst hXe
    have hpk := peek_r hp4 ⟨#[111, 114]⟩ 0 (by omega) 0 rfl
    rw [Nat.add_zero, c1] at hpk
    have HPK := Lib.hid hpk
    clear hpk c1 HXE
    go_upto_region 3 with (go_at_call 110; refine HPK.out.mono ?_; rintro ex w5 ⟨rfl, hb5⟩)
    have hp5 := hp4.below hb5
    have hf5 := hf4.below hb5
    have HPB5 := Lib.hid (pb4.below hb5)
    have pc5 := pc4.below hb5
    have hgt5 := hgt4.later hb5 hs4
    have hs5 := hb5.size
    have qx := HPB5.out.open6
    obtain ⟨y0, y1, y2, y3, y4, y5⟩ := pc5.six
    go_wp2_with fail
    refine bodyPost_ret (results_tr rfl _ _ _ _ _ _ _ _ _ rfl (HPB5.out.set6 _ _ _ _ _ _)) rfl ?_
    exact ans_ok (E := N0) (b := b2) (lo := W.heap.size) (Nat.le_of_eq HB2.out.symm) (by have := HSZ.out; omega) (.inl (by have := HB2.out; have := HSZ.out; omega)) hf5 hp5 (hgt5.wide (Nat.le_refl _) (by omega)) (fr6 _ _ _ _ _ _ _ _) H0.out hRl
end
end
section
open Go.RowKit
attribute [local go_sem] Oper.semAt_some
section
variable {R0 : Nat → Prop} {A : Option Addr} {c e : Nat} {ws : List Wd}
set_option maxRecDepth 100000 in
set_option maxHeartbeats 6400000 in
theorem clo_w (f : Nat) (hop : ∀ f', f' ≤ f → Rule R0 A c ws e f' .notted 109) : CloR R0 A c ws e (f + 1) := by
 intro w R a Bx hp h0 hx hX
 obtain ⟨W, hW, pb, hbW⟩ := made_blk w tz 28
 obtain ⟨b2, hb2⟩ : ∃ b, b = w.heap.size := ⟨_, rfl⟩
 have hRl : R < w.heap.size := hp.1.lt
 have hsz : W.heap.size = w.heap.size + 1 := by rw [hW]; simp
 have hp0 := hp.below hbW
 have hf0 : Fr w W (fun k => k = R) := Fr.of_below hbW
 have hne : ¬ b2 = R := by omega
 have pb0 : Blk W b2 28 tz := by rw [hb2]; exact pb
 have xc : W.cell? ⟨Bx, 0, none⟩ = some (.pointer (some ⟨R, 0, none⟩)) := (hx.below hbW).cell 0
 have hrow := row_and f hop W R a hp0 (hf0.lt h0) hX
 have hmf : ∀ (fn : Fn) (first cap : Array Value) (w : World), (Instr.makeFunc fn first cap).run Tryz.prog w = .ok (.func fn first cap) w := fun _ _ _ _ => rfl
 have HW := Lib.hid hW
 have H0 := Lib.hid h0
 have HB2 := Lib.hid hb2
 have HSZ := Lib.hid hsz
 clear hp hbW pb hW h0 hsz hb2 hop
 cases hY : P.G e (f + 1) .anded (ws.drop a) with
 | out => exact absurd hY hX
 | bad cd p =>
  rw [hY] at hrow
  have HR := Lib.hid hrow
  clear hrow hX hY
  go_enter Tryz.func108, Tryz.ntmps108
  go_upto_region 1 with (fail)
  rw [← HW.out, ← HB2.out]
  go_wp2_with (go_at_call 107; refine HR.out.mono ?_; rintro ex w9 ⟨rfl, hf9⟩)
  exact ⟨rfl, rfl, hf0.step hf9 (fun _ hk => .inl hk)⟩
 | ok u r =>
  rw [hY] at hrow
  have HR := Lib.hid hrow
  clear hrow hX hY
  go_enter Tryz.func108, Tryz.ntmps108
  go_upto_region 1 with (fail)
  rw [← HW.out, ← HB2.out]
  go_wp2_with (go_at_call 107; refine HR.out.mono ?_; rintro ex w9 ⟨v, a9, rfl, rfl, hp9, hg9, hf9⟩; obtain ⟨F1, f1, F2, f2, F3, f3, rfl⟩ := hg9.form; have HPB9 := Lib.hid (hf9.blk pb0 hne); have qx := HPB9.out.open6)
  refine bodyPost_ret (results_tr rfl _ _ _ _ _ _ _ _ _ rfl (HPB9.out.set6 _ _ _ _ _ _)) rfl ?_
  exact ans_sub (b := b2) (Nat.le_of_eq HB2.out.symm) (by have := HB2.out; have := HSZ.out; omega) (hf0.step hf9 (fun _ hk => .inl hk)) hp9 hg9 (fr6 _ _ _ _ _ _ _ _) H0.out hRl
set_option maxRecDepth 100000 in
set_option maxHeartbeats 6400000 in
theorem impl_w (f : Nat) (hclo : ∀ f', f' ≤ f → CloR R0 A c ws e f') (him : Rule R0 A c ws e f .impl 67) : Rule R0 A c ws e (f + 1) .impl 67 := by
 intro w R a hp h0 hX
 rw [P.G_succ] at hX ⊢
 obtain ⟨X, hXe⟩ : ∃ X, P.step e (P.G e f) .impl (ws.drop a) = X := ⟨_, rfl⟩
 rw [hXe] at hX ⊢
 have hXe : (P.G e f .ored (ws.drop a)).bind (fun t r => if P.isW ⟨#[105, 109, 112, 108, 105, 101, 115]⟩ r = true then (P.G e f .impl r.tail).bind (fun u r' => .ok (P.nd 19 [t, u]) r') else .ok t r) = X := hXe
 obtain ⟨W1, hW1, px, hbW1⟩ := made_blk w #[.pointer (some ⟨R, 0, none⟩)] 64
 obtain ⟨W, hW, pb, hbW2⟩ := made_blk W1 tz 28
 have hsz1 : W1.heap.size = w.heap.size + 1 := by rw [hW1]; simp
 have hsz : W.heap.size = w.heap.size + 2 := by rw [hW]; simp [hsz1]
 obtain ⟨Bx, hBx⟩ : ∃ b, b = w.heap.size := ⟨_, rfl⟩
 obtain ⟨b2, hb2⟩ : ∃ b, b = w.heap.size + 1 := ⟨_, rfl⟩
 have hbW := below_on hbW1 hbW2
 have hRl : R < w.heap.size := hp.1.lt
 have hp0 := hp.below hbW
 have hf0 : Fr w W (fun k => k = R) := Fr.of_below hbW
 have hne : ¬ b2 = R := by omega
 have hxR : ¬ Bx = R := by omega
 have pb0 : Blk W b2 28 tz := by rw [hb2, ← hsz1]; exact pb
 have px0 : Blk W Bx 64 #[.pointer (some ⟨R, 0, none⟩)] := by rw [hBx]; exact px.below hbW2
 have xc : W.cell? ⟨Bx, 0, none⟩ = some (.pointer (some ⟨R, 0, none⟩)) := px0.cell 0
 have hmf : ∀ (fn : Fn) (first cap : Array Value) (w : World), (Instr.makeFunc fn first cap).run Tryz.prog w = .ok (.func fn first cap) w := fun _ _ _ _ => rfl
 have hWW : W = (w.alloc (.cells #[.pointer (some ⟨R, 0, none⟩)] 64)).alloc (.cells tz 28) := by rw [hW, hW1]
 have HW := Lib.hid hWW
 have H0 := Lib.hid h0
 have HB2 := Lib.hid hb2
 have HBX := Lib.hid hBx
 have HSZ := Lib.hid hsz
 have hWR : R < W.heap.size := by omega
 have HIM := Lib.hid him
 clear hp hbW pb hW h0 hsz hb2 hbW1 hbW2 hW1 hWW px hsz1 hBx him
 cases f with
 | zero => exact absurd hXe.symm hX
 | succ f =>
 have hrow := fun (h : P.G e (f + 1) .ored (ws.drop a) ≠ .out) => row_or f (fun f' h => hclo f' (by omega)) W R a Bx hp0 (hf0.lt H0.out) px0 hxR h
 clear hclo
 cases hY : P.G e (f + 1) .ored (ws.drop a) with
 | out => rw [hY] at hXe; exact absurd hXe.symm hX
 | bad cd p =>
  have hrow := hrow (by rw [hY]; intro h; cases h)
  rw [hY] at hXe hrow
  have hXe : P.Rd.bad cd p = X := hXe
  subst hXe
  have HR := Lib.hid hrow
  clear hX hY hrow
  go_enter Tryz.func67, Tryz.ntmps67
  go_upto_region 1 with (fail)
  rw [← HW.out]
  (try rw [← HB2.out])
  rw [← HBX.out]
  go_wp2_with (go_at_call 107; refine HR.out.mono ?_; rintro ex w9 ⟨rfl, hf9⟩)
  exact ⟨rfl, rfl, hf0.step hf9 (fun _ hk => .inl hk)⟩
 | ok t r =>
  have hrow := hrow (by rw [hY]; intro h; cases h)
  rw [hY] at hXe hrow
  have hXe : (if P.isW ⟨#[105, 109, 112, 108, 105, 101, 115]⟩ r = true then (P.G e (f + 1) .impl r.tail).bind (fun u r' => .ok (P.nd 19 [t, u]) r') else .ok t r) = X := hXe
  have HR := Lib.hid hrow
  clear hY hrow
  go_enter Tryz.func67, Tryz.ntmps67
  go_upto_region 1 with (fail)
  rw [← HW.out]
  (try rw [← HB2.out])
  rw [← HBX.out]
  go_upto_region 2 with (go_at_call 107; refine HR.out.mono ?_; rintro ex w3 ⟨v, a3, rfl, rfl, hp3, hgt, hg3⟩; obtain ⟨G1, g1, G2, g2, G3, g3, rfl⟩ := hgt.form)
  obtain ⟨w4, hw4, pc4, hb4⟩ := made_blk w3 #[.int .i64 t.k, .string t.nm, .slice G1 t.ns.length g1, .bool t.ng, .slice G2 t.mg.length g2, .slice G3 t.ks.length g3] 28
  obtain ⟨b3, hb3⟩ : ∃ b, b = w3.heap.size := ⟨_, rfl⟩
  rw [← hw4, ← hb3]
  rw [← hb3] at pc4
  have hp4 := hp3.below hb4
  have hf4 := (hf0.step hg3 (fun _ hk => .inl hk)).below hb4
  have pb4 := (hg3.blk pb0 hne).below hb4
  have px4 := (hg3.blk px0 hxR).below hb4
  have hgt4 := (hgt.later hb4 (Nat.le_refl _)).lift (E' := fun k => k = b3) (fun b _ h e => by have : b = b3 := e; omega)
  have hs3 := hg3.size
  have hs4 := hb4.size
  have hne3 : ¬ b3 = R := by have := HSZ.out; omega
  have hb23 : ¬ b2 = b3 := by have := HSZ.out; have := HB2.out; omega
  have hbx3 : ¬ Bx = b3 := by have := HSZ.out; have := HBX.out; omega
  have hwb3 : w.heap.size < b3 := by have := HSZ.out; omega
  have hhi : w3.heap.size ≤ w4.heap.size := hs4
  have HXE := Lib.hid hXe
  clear hw4 hb3 hXe hp3 hb4 hgt xc
  have xc4 : w4.cell? ⟨Bx, 0, none⟩ = some (.pointer (some ⟨R, 0, none⟩)) := px4.cell 0
  by_cases c1 : P.isW ⟨#[105, 109, 112, 108, 105, 101, 115]⟩ (ws.drop a3) = true
  ·
   have hXe := HXE.out
   rw [if_pos c1, tail_drop] at hXe
   have Hc1 := Lib.hid c1
   clear c1 HXE
   cases hY : P.G e (f + 1) .impl (ws.drop (a3 + 1)) with
   | out => rw [hY] at hXe; exact absurd hXe.symm hX
   | bad cd p =>
    rw [hY] at hXe
    have hXe : P.Rd.bad cd p = X := hXe
    subst hXe
    have HY := Lib.hid hY
    clear hX hY
    go_upto_region 3 with (go_at_call 68; refine (is_yes hp4 _ Hc1.out).mono ?_; rintro ex w7 ⟨rfl, hp7, hg7⟩)
    have hf7 := hf4.step hg7 (fun _ hk => .inl hk)
    have pc7 := hg7.blk pc4 hne3
    have px7 := hg7.blk px4 hxR
    have hpd : Pa w7.drew R R0 A c ws e (a3 + 1) := hp7.below (Below.refl _ _).drew
    refine wp_region_held_drew (S := fun w' => (w'.cell? ⟨b3, 0, none⟩ = some (Value.int .i64 t.k) ∧ w'.cell? ⟨b3, 1, none⟩ = some (Value.string t.nm) ∧ w'.cell? ⟨b3, 2, none⟩ = some (Value.slice G1 t.ns.length g1) ∧ w'.cell? ⟨b3, 3, none⟩ = some (Value.bool t.ng) ∧ w'.cell? ⟨b3, 4, none⟩ = some (Value.slice G2 t.mg.length g2) ∧ w'.cell? ⟨b3, 5, none⟩ = some (Value.slice G3 t.ks.length g3)) ∧ w'.cell? ⟨Bx, 0, none⟩ = some (.pointer (some ⟨R, 0, none⟩))) (by kernel_rfl) ⟨pc7.six, px7.cell 0⟩ (fun hHeld => ?_)
    refine take_at 0 (by kernel_rfl) (by kernel_rfl) (by kernel_rfl) (fun _ _ d _ _ h => by cases d <;> exact h) ⟨_, rfl⟩ (by assumption) (fun o ho => ?_)
    simp only [zg1, zg3, zg4] at ho
    subst ho
    refine ⟨?_, ⟨by rfl, ?_⟩, ?_⟩
    rotate_left
    · intro w hSw
      (try dsimp only at hSw)
      (go_simp; try with_reducible rfl)
    (try simp only [Act.put, zs1, zs2, zs3])
    refine take_at 1 (by kernel_rfl) (by kernel_rfl) (by kernel_rfl) (fun _ _ d _ _ h => by cases d <;> exact h) ⟨_, rfl⟩ (by assumption) (fun o ho => ?_)
    simp only [zg1, zg2, zg3, zg4] at ho
    subst ho
    refine ⟨?_, ⟨by rfl, ?_⟩, ?_⟩
    rotate_left
    · intro w hSw
      (try dsimp only at hSw)
      (go_simp; try with_reducible rfl)
    (try simp only [Act.put, zs1, zs2, zs3])
    refine wpAnyH_ready (rs := [2]) (by kernel_rfl) (by simp) ?_
    refine ready_at 2 ⟨_, rfl⟩ (fun o ho K hK => ?_) AllReadyH.nil
    simp only [zg1, zg2, zg3, zg4] at ho
    subst ho
    go_simp
    go_at_call 67
    refine (HIM.out.bad hpd ((hf7.below (Below.refl _ _).drew).lt H0.out) HY.out).mono ?_
    rintro ex w9 ⟨rfl, hf9⟩
    exact ⟨rfl, rfl, (hf7.below (Below.refl _ _).drew).step hf9 (fun _ hk => .inl hk)⟩
   | ok u r =>
    rw [hY] at hXe
    have hXe : P.Rd.ok (P.nd 19 [t, u]) r = X := hXe
    subst hXe
    have HY := Lib.hid hY
    clear hX hY
    go_upto_region 3 with (go_at_call 68; refine (is_yes hp4 _ Hc1.out).mono ?_; rintro ex w7 ⟨rfl, hp7, hg7⟩)
    have hf7 := hf4.step hg7 (fun _ hk => .inl hk)
    have pb7 := hg7.blk pb4 hne
    have pc7 := hg7.blk pc4 hne3
    have px7 := hg7.blk px4 hxR
    have hgt7 := hgt4.fr hg7 (fun b hb e => hp4.2.1 (e ▸ hb)) (fun b h1 _ _ e => by have : b = R := e; omega) hhi
    have hhi7 := Nat.le_trans hhi hg7.size
    have hpd : Pa w7.drew R R0 A c ws e (a3 + 1) := hp7.below (Below.refl _ _).drew
    have pcd : Blk w7.drew b3 28 #[.int .i64 t.k, .string t.nm, .slice G1 t.ns.length g1, .bool t.ng, .slice G2 t.mg.length g2, .slice G3 t.ks.length g3] := pc7
    have pxd : Blk w7.drew Bx 64 #[.pointer (some ⟨R, 0, none⟩)] := px7
    have pbd : Blk w7.drew b2 28 tz := pb7
    have hfd : Fr w w7.drew (fun k => k = R) := hf7.below (Below.refl _ _).drew
    obtain ⟨z0, z1, z2, z3, z4, z5⟩ := pcd.six
    have xcd : w7.drew.cell? ⟨Bx, 0, none⟩ = some (.pointer (some ⟨R, 0, none⟩)) := pxd.cell 0
    go_region_with (go_at_call 67; refine (HIM.out.ok hpd (hfd.lt H0.out) HY.out).mono ?_; rintro ex w9 ⟨v, a9, rfl, rfl, hp9, hg9, hf9⟩; obtain ⟨F1, f1, F2, f2, F3, f3, rfl⟩ := hg9.form; have pc9 := hf9.blk pcd hne3; have hal9 := below_alloc1 w9 (row2 (tc t.k t.nm G1 t.ns.length g1 t.ng G2 t.mg.length g2 G3 t.ks.length g3) (tc u.k u.nm F1 u.ns.length f1 u.ng F2 u.mg.length f2 F3 u.ks.length f3)); have HPC9 := Lib.hid (pc9.below hal9); obtain ⟨y0, y1, y2, y3, y4, y5⟩ := pc9.six; have qx := HPC9.out.open6)
    all_goals
     clear qx y0 y1 y2 y3 y4 y5 z0 z1 z2 z3 z4 z5 xcd
     have hgd : T.GotE w7.drew R0 (fun k => k = b3) t W.heap.size w3.heap.size (tc t.k t.nm G1 t.ns.length g1 t.ng G2 t.mg.length g2 G3 t.ks.length g3) := hgt7.later (Below.refl _ _).drew hhi7
     have hg2 := got_two (k := 19) (hgd.fr hf9 (fun b hb e => hpd.2.1 (e ▸ hb)) (fun b h1 _ _ e => by have : b = R := e; have := HSZ.out; omega) hhi7) hhi7 (hg9.lift (E' := fun k => k = b3) (fun b h1 _ e => by have : b = b3 := e; have := pc7.lt; have h1 : w7.heap.size ≤ b := h1; omega)) (fun e => by have : w9.heap.size = b3 := e; have := pc9.lt; omega)
     have h6 := fr6 (w9.alloc (row2 (tc t.k t.nm G1 t.ns.length g1 t.ng G2 t.mg.length g2 G3 t.ks.length g3) (tc u.k u.nm F1 u.ns.length f1 u.ng F2 u.mg.length f2 F3 u.ks.length f3))) b3 (.int .i64 19) (.string ⟨#[]⟩) (.slice none 0 0) (.bool false) (.slice none 0 0) (.slice (some ⟨w9.heap.size, 0, none⟩) 2 2)
     have hg6 := hg2.fr h6 (fun b hb e => by have : b = b3 := e; have := H0.out b hb; omega) (fun b _ _ h e => h e) (Nat.le_refl _)
     have pc6 := HPC9.out.set6 (.int .i64 19) (.string ⟨#[]⟩) (.slice none 0 0) (.bool false) (.slice none 0 0) (.slice (some ⟨w9.heap.size, 0, none⟩) 2 2)
     have hpa : Pa ((((((((w9.alloc (row2 (tc t.k t.nm G1 t.ns.length g1 t.ng G2 t.mg.length g2 G3 t.ks.length g3) (tc u.k u.nm F1 u.ns.length f1 u.ng F2 u.mg.length f2 F3 u.ks.length f3))).setCell ⟨b3, 0, none⟩ (.int .i64 19)).setCell ⟨b3, 1, none⟩ (.string ⟨#[]⟩)).setCell ⟨b3, 2, none⟩ (.slice none 0 0)).setCell ⟨b3, 3, none⟩ (.bool false)).setCell ⟨b3, 4, none⟩ (.slice none 0 0)).setCell ⟨b3, 5, none⟩ (.slice (some ⟨w9.heap.size, 0, none⟩) 2 2))) R R0 A c ws e a9 := ⟨h6.blk (hp9.below hal9).1 (fun e => hne3 e.symm), hp9.2.1, (hp9.below hal9).2.2.1.keep (.of_fr h6 (fun b hb e => by have : b = b3 := e; have := H0.out b hb; omega)), hp9.2.2.2⟩
     have pb6 := h6.blk ((hf9.blk pbd hne).below hal9) (fun e => hb23 e)
     have hfa := ((hfd.step hf9 (fun _ hk => .inl hk)).below hal9).step h6 (fun b e => .inr (by have : b = b3 := e; omega))
     go_upto_region 4 with (fail)
     obtain ⟨g9, hg9'⟩ : ∃ g, w9.heap.size = g := ⟨_, rfl⟩
     rw [hg9'] at hg6 pc6 hpa pb6 hfa ⊢
     obtain ⟨Wx, hWx⟩ : ∃ Wx, (((((((w9.alloc (row2 (tc t.k t.nm G1 t.ns.length g1 t.ng G2 t.mg.length g2 G3 t.ks.length g3) (tc u.k u.nm F1 u.ns.length f1 u.ng F2 u.mg.length f2 F3 u.ks.length f3))).setCell ⟨b3, 0, none⟩ (.int .i64 19)).setCell ⟨b3, 1, none⟩ (.string ⟨#[]⟩)).setCell ⟨b3, 2, none⟩ (.slice none 0 0)).setCell ⟨b3, 3, none⟩ (.bool false)).setCell ⟨b3, 4, none⟩ (.slice none 0 0)).setCell ⟨b3, 5, none⟩ (.slice (some ⟨g9, 0, none⟩) 2 2)) = Wx := ⟨_, rfl⟩
     have hszx : (w9.alloc (row2 (tc t.k t.nm G1 t.ns.length g1 t.ng G2 t.mg.length g2 G3 t.ks.length g3) (tc u.k u.nm F1 u.ns.length f1 u.ng F2 u.mg.length f2 F3 u.ks.length f3))).heap.size = Wx.heap.size := by rw [← hWx]; simp
     rw [hWx] at hg6 pc6 hpa pb6 hfa ⊢
     clear hWx h6 hg2
     have HPB6 := Lib.hid pb6
     have qx := HPB6.out.open6
     obtain ⟨y0, y1, y2, y3, y4, y5⟩ := pc6.six
     clear pb6 hg9'
     have hhx := hg6.le
     go_wp2_with fail
     refine bodyPost_ret (results_tr rfl _ _ _ _ _ _ _ _ _ rfl (HPB6.out.set6 _ _ _ _ _ _)) rfl ?_
     exact ans_ok (E := fun k => k = b3) (b := b2) (lo := W.heap.size) (by have := HB2.out; omega) (by have := HSZ.out; omega) (.inl (by have := HB2.out; have := HSZ.out; omega)) hfa hpa (hg6.wide (Nat.le_refl _) (by rw [← hszx]; exact Nat.le_refl _)) (fr6 _ _ _ _ _ _ _ _) H0.out hRl
  ·
   rw [Bool.not_eq_true] at c1
   have hXe := HXE.out
   rw [c1, if_neg (by decide)] at hXe
   subst hXe
   have Hc1 := Lib.hid c1
   clear c1 HXE hX
   go_upto_region 4 with (go_at_call 68; refine (is_no hp4 _ Hc1.out).mono ?_; rintro ex w5 ⟨rfl, hb5⟩)
   have hp5 := hp4.below hb5
   have hf5 := hf4.below hb5
   have HPB5 := Lib.hid (pb4.below hb5)
   have pc5 := pc4.below hb5
   have hgt5 := hgt4.later hb5 hhi
   have hs5 := hb5.size
   have qx := HPB5.out.open6
   obtain ⟨y0, y1, y2, y3, y4, y5⟩ := pc5.six
   go_wp2_with fail
   refine bodyPost_ret (results_tr rfl _ _ _ _ _ _ _ _ _ rfl (HPB5.out.set6 _ _ _ _ _ _)) rfl ?_
   exact ans_ok (E := fun k => k = b3) (b := b2) (lo := W.heap.size) (by have := HB2.out; omega) (by have := HSZ.out; omega) (.inl (by have := HB2.out; have := HSZ.out; omega)) hf5 hp5 (hgt5.wide (Nat.le_refl _) (Nat.le_trans hhi hs5)) (fr6 _ _ _ _ _ _ _ _) H0.out hRl
end
end
end Go.Proofs.YthiadenmljbdaaaGreatDoor

/-
  l: the parts QRules QCatch QParse QParse2 PBulk QParseX.
-/
import Derived.Test.YthiadenmljbdaaaGreatDoorB15l
import Derived.Test.YthiadenmljbdaaaGreatDoorB16l
import Derived.Test.YthiadenmljbdaaaGreatDoorB17l
import Derived.Test.YthiadenmljbdaaaGreatDoorB18l
import Derived.Test.YthiadenmljbdaaaGreatDoorB19l
import Derived.Defers
import Derived.Recover
import Derived.Test.YthiadenmljbdaaaGreatDoorB7l
namespace Go.Proofs.YthiadenmljbdaaaGreatDoor
section
open Go.RowKit
section
variable {R0 : Nat → Prop} {A : Option Addr} {c e : Nat} {ws : List Wd}
def AllR (R0 : Nat → Prop) (A : Option Addr) (c : Nat) (ws : List Wd) (e f : Nat) : Prop :=
 Rule R0 A c ws e f .form 38 ∧ Rule R0 A c ws e f .impl 67 ∧ Rule R0 A c ws e f .notted 109 ∧
 Rule R0 A c ws e f .prim 144 ∧ Rule R0 A c ws e f .sum 164 ∧ Rule R0 A c ws e f .oper 172
theorem rule0 (nt : P.NT) (fn : Nat) : Rule R0 A c ws e 0 nt fn := fun _ _ _ _ _ h => absurd rfl h
theorem clo0 : CloR R0 A c ws e 0 := fun _ _ _ _ _ _ _ h => absurd rfl h
theorem all_rules (hdot : DotOk ws) : ∀ (f f' : Nat), f' ≤ f → AllR R0 A c ws e f'
 | 0, f', h => by
  obtain rfl : f' = 0 := by omega
  exact ⟨rule0 _ _, rule0 _ _, rule0 _ _, rule0 _ _, rule0 _ _, rule0 _ _⟩
 | f + 1, f', h => by
  have ih := all_rules hdot f
  by_cases hf : f' ≤ f
  · exact ih f' hf
  ·
   obtain rfl : f' = f + 1 := by omega
   have h0 := ih f (Nat.le_refl _)
   have hclo : ∀ g, g ≤ f → CloR R0 A c ws e g := fun g hg => by
    cases g with
    | zero => exact clo0
    | succ g => exact clo_w g (fun k hk => (ih k (by omega)).2.2.1)
   exact ⟨form_w f (fun g hg => (ih g hg).2.1), impl_w f hclo h0.2.1, notted_w f h0.2.2.1 (fun k => bound_w hdot f h0.1 k) h0.2.2.2.1, prim_w f h0.1 h0.2.2.2.2.1, sum_w f (fun g hg => (ih g hg).2.2.2.2.2), oper_w f h0.2.2.2.2.2 h0.2.2.2.2.1⟩
theorem formula_w (hdot : DotOk ws) (f : Nat) : Rule R0 A c ws e f .form 38 := (all_rules hdot f f (Nat.le_refl _)).1
end
end
section
open Go.RowKit
attribute [local go_sem] Oper.semAt_some
set_option maxRecDepth 100000 in
set_option maxHeartbeats 3200000 in
theorem catch_idle (b2 b3 : Nat) (w : World) :
    CallsD Tryz.prog 37 #[.pointer (some ⟨b2, 0, none⟩), .pointer (some ⟨b3, 0, none⟩)] .returning w fun e u' w' => e = .returned (.tuple #[]) ∧ u' = .returning ∧ w' = w := by
  refine callsD_of_wpS Tryz.func37 rfl fun c₀ cs hu => ?_
  apply wpS_seq
  apply wpS_region
  simp [wpOpsS, go_sem, recoverD, hu, Tryz.ntmps37, Exit.thenS]
  apply wpS_seq
  apply wpS_region
  have hnil : ∀ w : World, (binOp .neq 20 .nilIface .nilIface).run Tryz.prog w = .ok (.bool false) w := fun _ => by kernel_rfl
  simp [wpOpsS, go_sem, Exit.thenS, hnil]
  refine wpS_cond (t := false) (by simp [Act.eval, Array.replicate]) ?_
  simp only [Bool.false_eq_true, if_false]
  refine wpS_of_wp (wp_skip ?_)
  cases c₀
  simp_all [bodyPostS, results, Tryz.results37]
set_option maxRecDepth 100000 in
set_option maxHeartbeats 3200000 in
theorem catch_stop (b2 b3 cd p : Nat) (w : World) (u0 u1 a0 a1 a2 a3 a4 a5 : Value) (h2 : Blk w b2 28 #[a0, a1, a2, a3, a4, a5]) (h3 : Blk w b3 31 #[u0, u1]) (hne : b2 ≠ b3) :
    CallsD Tryz.prog 37 #[.pointer (some ⟨b2, 0, none⟩), .pointer (some ⟨b3, 0, none⟩)] (.panicking [stopV cd p]) w fun e u' w' =>
     e = .returned (.tuple #[]) ∧ u' = .panicking [{ v := .iface 62 (.agg #[.int .i64 (cd : Nat), .int .i64 (p : Nat)]), recovered := true }] ∧ Blk w' b2 28 tz ∧ Blk w' b3 31 #[.int .i64 (cd : Nat), .int .i64 (p : Nat)] ∧ Fr w w' (fun k => k = b2 ∨ k = b3) := by
  refine callsD_of_wpS Tryz.func37 rfl fun c₀ cs hu => ?_
  apply wpS_seq
  apply wpS_region
  simp [wpOpsS, go_sem, recoverD, hu, Tryz.ntmps37, Exit.thenS]
  apply wpS_seq
  apply wpS_region
  have hnil : ∀ (v : Value) (w : World), (binOp .neq 20 (.iface 62 v) .nilIface).run Tryz.prog w = .ok (.bool true) w := fun _ _ => by kernel_rfl
  simp [wpOpsS, go_sem, Exit.thenS, hnil]
  refine wpS_cond (t := true) (by simp [Act.eval, Array.replicate]) ?_
  simp only [if_true]
  refine wpS_of_wp ?_
  simp only [Array.replicate_succ, Array.replicate_zero, List.push_toArray, List.append_toArray, List.nil_append, List.cons_append, List.setIfInBounds_toArray, List.set_cons_zero, List.set_cons_succ]
  have hta : ∀ (v : Value) (w : World), (Instr.typeAssert (.iface 62 v) 20 62 true).run Tryz.prog w = .ok (.tuple #[v, .bool true]) w := fun _ _ => by kernel_rfl
  go_upto_region 3 with (fail)
  obtain ⟨W, hW, ps, hbW⟩ := made_blk w #[.int .i64 (cd : Nat), .int .i64 (p : Nat)] 62
  obtain ⟨bs, hbs⟩ : ∃ b, b = w.heap.size := ⟨_, rfl⟩
  rw [← hW, ← hbs]
  rw [← hbs] at ps
  have h2W := h2.below hbW
  have h3W := h3.below hbW
  have l2 := h2.lt
  have l3 := h3.lt
  have hn2 : bs ≠ b2 := by omega
  have hn3 : bs ≠ b3 := by omega
  clear hW hbs
  have qx := h2W.open6
  obtain ⟨⟨r0, r1⟩, y0, y1⟩ := h3W.facts2
  obtain ⟨_, z0, z1⟩ := ps.facts2
  go_wp2_with fail
  go_region
  all_goals
   go_wp2_with fail
   have k6 := fr6 W b2 (.int .i64 0) (.string ⟨#[]⟩) (.slice none 0 0) (.bool false) (.slice none 0 0) (.slice none 0 0)
   have g2 := h2W.set6 (.int .i64 0) (.string ⟨#[]⟩) (.slice none 0 0) (.bool false) (.slice none 0 0) (.slice none 0 0)
   have g3 := k6.blk h3W (fun e => hne e.symm)
   have kw : Fr w W (fun k => k = b2 ∨ k = b3) := Fr.of_below hbW
   have k2 := kw.step k6 (fun _ h => .inl (.inl h))
   have k3 := ((k2.set (b := b3) (.inl (.inr rfl)) 0 (.int .i64 (cd : Nat))).set (b := b3) (.inl (.inr rfl)) 1 (.int .i64 (p : Nat))).drew
   have f2 := ((g2.far hne 0 (.int .i64 (cd : Nat))).far hne 1 (.int .i64 (p : Nat))).drew
   have f3 := (g3.set2 (.int .i64 (cd : Nat)) (.int .i64 (p : Nat))).drew
   generalize ((((((((W.setCell ⟨b2, 0, none⟩ (.int .i64 0)).setCell ⟨b2, 1, none⟩ (.string ⟨#[]⟩)).setCell ⟨b2, 2, none⟩ (.slice none 0 0)).setCell ⟨b2, 3, none⟩ (.bool false)).setCell ⟨b2, 4, none⟩ (.slice none 0 0)).setCell ⟨b2, 5, none⟩ (.slice none 0 0)).setCell ⟨b3, 0, none⟩ (.int .i64 (cd : Nat))).setCell ⟨b3, 1, none⟩ (.int .i64 (p : Nat))).drew = Wf at k3 f2 f3 ⊢
   simp [bodyPostS, results, Tryz.results37]
   exact ⟨f2, f3, k3⟩
end
section
open Go.RowKit
attribute [local go_sem] Oper.semAt_some
namespace P
def resOf : Rd → Nat × Nat × T
 | .out => (0, 0, t0)
 | .bad c p => (c, p, t0)
 | .ok t _ => if 60 < t.depth then (43, 0, t0) else (0, 0, t)
def res (S : ByteArray) : Nat × Nat × T :=
 if 4096 < S.size then (40, 0, t0) else
 if (X.ans S.data.toList).2.1 ≠ 0 then ((X.ans S.data.toList).2.1, (X.ans S.data.toList).2.2, t0) else
 resOf (P.read S.size (X.tks S.data.toList (X.ans S.data.toList).1))
end P
theorem mag_lm {w : World} {base n c k : Nat} {A : Option Addr} {l : List UInt8} {R0 : Nat → Prop} (h : MagOf base w (.slice A n c) k l) (hR : ∀ b, base ≤ b → b < w.heap.size → R0 b) : n = (if k = 1 then N.ofN (N.val l) else []).length ∧ Lm w R0 A c (if k = 1 then N.ofN (N.val l) else []) := by
 have hs := h.sl
 have hw := h.wr (Below.refl _ _)
 refine ⟨hs.len.symm, ⟨by rw [hs.len]; exact hs, fun hp ad e => ?_⟩, ?_, ?_⟩
 ·
  rcases hw with hw | ⟨g, n', c', cs, hw, _, _, hg, _⟩
  · injection hw with e1 _ _
    rw [e1] at e
    cases e
  · injection hw with e1 _ _
    rw [e1] at e
    injection e with e
    rw [← e]
    exact hR g hg.1 hg.2
 · rcases hw with hw | ⟨g, n', c', cs, hw, _, hm, _⟩
   · injection hw with _ _ e3
     omega
   · injection hw with _ _ e3
     omega
 · rcases hw with hw | ⟨g, n', c', cs, hw, _, _, hg, hc, hcs, hu⟩
   · injection hw with e1 _ e3
     exact .inl ⟨e1, e3⟩
   · injection hw with e1 _ e3
     exact .inr ⟨g, cs, e1, hR g hg.1 hg.2, hc, by omega, hu⟩
theorem wds_tok {w : World} {base c : Nat} {A : Option Addr} {rs : List Tk} {l : List UInt8} {ps : List (Nat × Nat × Nat)} {R0 : Nat → Prop} (hown : OutT w base (.slice A ps.length c) rs) (htk : Toks w base l rs ps) (hR : ∀ b, base ≤ b → b < w.heap.size → R0 b) : Wds w R0 A (X.tks l ps) := fun hn => by
 rw [X.tks_len] at hn
 obtain ⟨g, cap, e, hc⟩ := tok_cells hown htk hn
 injection e with e1 _ _
 subst e1
 have hb := hown.base (b := g) rfl
 refine ⟨g, rfl, hR g hb.1 hb.2, fun i hi => ?_⟩
 rw [X.tks_len] at hi
 obtain ⟨B, m, d, h0, h1, h2, h3, h4, h5⟩ := hc i hi
 obtain ⟨hm, hlm⟩ := mag_lm h5 hR
 rw [X.tks_get _ _ _ hi]
 exact ⟨B, d, h0, h1, h2, by rw [h3, hm], h4, hlm⟩
theorem kz_got (w : World) (R0 : Nat → Prop) (lo hi : Nat) (h : lo ≤ hi) : T.Got w R0 t0 lo hi kc0 := T.GotE.leaf (k := 0) (nm := ⟨#[]⟩) (mg := []) (Lm.nil _ _) h
theorem below_fr {w W w' : World} {x : Nat → Prop} (h : Below w.heap.size w W) (hF : Fr W w' x) (hx : ∀ k, x k → w.heap.size ≤ k) : Below w.heap.size w w' :=
 h.trans ⟨hF.os, hF.tape, hF.output, hF.size, fun k hk => hF.block k (Nat.lt_of_lt_of_le hk h.size) (fun e => by have := hx k e; omega)⟩
theorem enter_p (w : World) : ∃ W : World, W = (w.alloc (.cells tz 28)).alloc (.cells #[.int .i64 0, .int .i64 0] 31) ∧ Blk W w.heap.size 28 tz ∧ Blk W (w.heap.size + 1) 31 #[.int .i64 0, .int .i64 0] ∧ W.heap.size = w.heap.size + 2 ∧ Below w.heap.size w W := by
 refine ⟨_, rfl, (Blk.new w _ _).below (below_alloc1 _ _), ?_, by simp, below_on (below_alloc1 _ _) (below_alloc1 _ _)⟩
 have := Blk.new (w.alloc (.cells tz 28)) 31 #[.int .i64 0, .int .i64 0]
 rwa [World.size_alloc] at this
theorem results_p {fn : Func} {p q : Tmp} (h : fn.results = #[.cell p 28, .cell q 31]) (tmps : Array Value) (w : World) (b2 b3 : Nat) (a0 a1 a2 a3 a4 a5 m0 m1 : Value)
    (hp : tmps.getD p undef = .pointer (some ⟨b2, 0, none⟩)) (hq : tmps.getD q undef = .pointer (some ⟨b3, 0, none⟩)) (h2 : Blk w b2 28 #[a0, a1, a2, a3, a4, a5]) (h3 : Blk w b3 31 #[m0, m1]) :
    (results fn tmps).run Tryz.prog w = .ok (.tuple #[.agg #[a0, a1, a2, a3, a4, a5], .agg #[m0, m1]]) w := by
  have hp' : tmps[p]?.getD undef = .pointer (some ⟨b2, 0, none⟩) := by simpa using hp
  have hq' : tmps[q]?.getD undef = .pointer (some ⟨b3, 0, none⟩) := by simpa using hq
  simp [results, h, hp', hq', asAddr, run_loadVar_row w b2 _ 28 _ _ _ h2 Tryz.underlying28 rfl sizeTree, run_loadVar_row w b3 _ 31 _ _ _ h3 Tryz.underlying31 rfl sizeMis]
set_option maxRecDepth 100000 in
set_option maxHeartbeats 3200000 in
theorem parse_long (w : World) (S : ByteArray) (hS : 4096 < S.size) :
    Calls Tryz.prog 12 #[.string S] w fun ex w' => ex = .returned (.tuple #[kv kc0, .agg #[.int .i64 40, .int .i64 0]]) ∧ Below w.heap.size w w' := by
  obtain ⟨W, hW, p2, p3, hsz, hbW⟩ := enter_p w
  obtain ⟨b2, hb2⟩ : ∃ b, b = w.heap.size := ⟨_, rfl⟩
  obtain ⟨b3, hb3⟩ : ∃ b, b = w.heap.size + 1 := ⟨_, rfl⟩
  rw [← hb2] at p2
  rw [← hb3] at p3
  have d1 : decide ((4096 : Int) < S.size) = true := decide_eq_true (by omega)
  have d2 : decide ((S.size : Int) > 4096) = true := decide_eq_true (by omega)
  have HP2 := Lib.hid p2
  have HP3 := Lib.hid p3
  have HW := Lib.hid hW
  have HB2 := Lib.hid hb2
  have HB3 := Lib.hid hb3
  have hn23 : b2 ≠ b3 := by omega
  clear hW hb2 hb3 hsz
  have qx := p2.open6
  obtain ⟨⟨r0, r1⟩, y0, y1⟩ := p3.facts2
  refine calls_of_wp_defers Tryz.func12 rfl ?_
  simp only [Tryz.ntmps12, List.size_toArray, List.length_cons, List.length_nil, Nat.reduceAdd, Nat.reduceSub, Array.replicate_succ, Array.replicate_zero, List.push_toArray, List.append_toArray, List.nil_append, List.cons_append]
  generalize hQ : bodyPostD Tryz.prog Tryz.f12 _ = Q
  go_upto_region 1 with (fail)
  rw [← HW.out]
  (try rw [← HB3.out])
  (try rw [← HB2.out])
  go_upto_region 2 with (fail)
  go_wp2_with fail
  rw [← hQ]
  refine ⟨_, results_p rfl _ _ _ _ _ _ _ _ _ _ _ _ rfl rfl ((((HP2.out.set6 _ _ _ _ _ _).far hn23 _ _).far hn23 _ _)) (((((((HP3.out.far hn23.symm _ _).far hn23.symm _ _).far hn23.symm _ _).far hn23.symm _ _).far hn23.symm _ _).far hn23.symm _ _).set2 _ _), rfl, ?_⟩
  have l2 : w.heap.size ≤ b2 := Nat.le_of_eq HB2.out.symm
  have l3 : w.heap.size ≤ b3 := by have := HB3.out; omega
  exact (((((((hbW.setCell l2 _).setCell l2 _).setCell l2 _).setCell l2 _).setCell l2 _).setCell l2 _).setCell l3 _).setCell l3 _
end
section
open Go.RowKit
attribute [local go_sem] Oper.semAt_some
set_option maxRecDepth 100000 in
set_option maxHeartbeats 6400000 in
theorem parse_err (w : World) (S : ByteArray) (hS : S.size ≤ 4096) (hc : (X.ans S.data.toList).2.1 ≠ 0) :
    Calls Tryz.prog 12 #[.string S] w fun ex w' => ex = .returned (.tuple #[kv kc0, .agg #[.int .i64 ((X.ans S.data.toList).2.1 : Nat), .int .i64 ((X.ans S.data.toList).2.2 : Nat)]]) ∧ Below w.heap.size w w' := by
  obtain ⟨W, hW, p2, p3, hsz, hbW⟩ := enter_p w
  obtain ⟨b2, hb2⟩ : ∃ b, b = w.heap.size := ⟨_, rfl⟩
  obtain ⟨b3, hb3⟩ : ∃ b, b = w.heap.size + 1 := ⟨_, rfl⟩
  rw [← hb2] at p2
  rw [← hb3] at p3
  have d1 : decide ((4096 : Int) < S.size) = false := decide_eq_false (by omega)
  have d2 : decide ((S.size : Int) > 4096) = false := decide_eq_false (by omega)
  have HW := Lib.hid hW
  have HB2 := Lib.hid hb2
  have HB3 := Lib.hid hb3
  have HSZ := Lib.hid hsz
  have hn23 : b2 ≠ b3 := by omega
  clear hW hb2 hb3 hsz
  obtain ⟨⟨t1, cd, pp⟩, ht⟩ : ∃ t, X.ans S.data.toList = t := ⟨_, rfl⟩
  rw [ht] at hc ⊢
  dsimp only at hc ⊢
  have HT := Lib.hid ht
  have HC := Lib.hid hc
  clear hc ht
  refine calls_of_wp_defers Tryz.func12 rfl ?_
  simp only [Tryz.ntmps12, List.size_toArray, List.length_cons, List.length_nil, Nat.reduceAdd, Nat.reduceSub, Array.replicate_succ, Array.replicate_zero, List.push_toArray, List.append_toArray, List.nil_append, List.cons_append]
  generalize hQ : bodyPostD Tryz.prog Tryz.f12 _ = Q
  have HQ := Lib.hid hQ
  clear hQ
  go_upto_region 1 with (fail)
  rw [← HW.out]
  (try rw [← HB3.out])
  (try rw [← HB2.out])
  go_upto_region 4 with (go_at_call 36; refine (tokens_x _ S).mono ?_; rw [HT.out]; dsimp only; rintro ex w1 ⟨v, rs, rfl, hown, htk, hb1⟩; have p31 := p3.below hb1; obtain ⟨⟨r0, r1⟩, y0, y1⟩ := p31.facts2)
  clear r0 r1 y0 y1
  have p21 := p2.below hb1
  have l2 : w.heap.size ≤ b2 := Nat.le_of_eq HB2.out.symm
  have l3 : w.heap.size ≤ b3 := by have := HB3.out; omega
  have p32 := p31.set2 (.int .i64 (cd : Nat)) (.int .i64 (pp : Nat))
  have p22 := (p21.far hn23 0 (.int .i64 (cd : Nat))).far hn23 1 (.int .i64 (pp : Nat))
  have hf2 : Fr w1 ((w1.setCell ⟨b3, 0, none⟩ (.int .i64 (cd : Nat))).setCell ⟨b3, 1, none⟩ (.int .i64 (pp : Nat))) (fun k => k = b3) := by
   have h0 : Fr w1 w1 (fun k => k = b3) := Fr.refl _ _
   exact (h0.set (b := b3) (.inl rfl) 0 _).set (b := b3) (.inl rfl) 1 _
  obtain ⟨w2, hw2⟩ : ∃ W, (w1.setCell ⟨b3, 0, none⟩ (.int .i64 (cd : Nat))).setCell ⟨b3, 1, none⟩ (.int .i64 (pp : Nat)) = W := ⟨_, rfl⟩
  rw [hw2] at p32 p22 hf2 ⊢
  have hb02 : Below w.heap.size w w2 := by rw [← hw2]; exact ((below_on hbW hb1).setCell l3 _).setCell l3 _
  clear hw2 p31 p21
  obtain ⟨⟨q0, q1, q2, q3, q4, q5⟩, x0, x1, x2, x3, x4, x5⟩ := p22.open6
  obtain ⟨⟨r0, r1⟩, y0, y1⟩ := p32.facts2
  have hc1 : ((cd : Int) != 0) = true := by have := HC.out; simp; omega
  go_wp2_with fail
  go_region
  all_goals
   go_wp2_with fail
   rw [← HQ.out]
   refine ⟨_, results_p rfl _ _ _ _ _ _ _ _ _ _ _ _ rfl rfl ((((p22.set6 _ _ _ _ _ _).far hn23 _ _).far hn23 _ _).drew) ((((((((p32.far hn23.symm _ _).far hn23.symm _ _).far hn23.symm _ _).far hn23.symm _ _).far hn23.symm _ _).far hn23.symm _ _).set2 _ _).drew), rfl, ?_⟩
   exact ((((((((hb02.setCell l2 _).setCell l2 _).setCell l2 _).setCell l2 _).setCell l2 _).setCell l2 _).setCell l3 _).setCell l3 _).drew
theorem Pa.mk5 {w w' : World} {R b a : Nat} {R0 : Nat → Prop} {A : Option Addr} {c e : Nat} {ws : List Wd} (h : Pa w R R0 A c ws e a) (hf : Fr w w' (fun k => k = b)) (hR : ¬ R = b) (h0 : ∀ k, R0 k → ¬ k = b) : Pa w' R R0 A c ws e a :=
 ⟨hf.blk h.1 hR, h.2.1, h.2.2.1.keep (.of_fr hf h0), h.2.2.2⟩
theorem fr8 (w : World) (b2 b3 : Nat) (u0 u1 u2 u3 u4 u5 m0 m1 : Value) : Fr w ((((((((w.setCell ⟨b2, 0, none⟩ u0).setCell ⟨b2, 1, none⟩ u1).setCell ⟨b2, 2, none⟩ u2).setCell ⟨b2, 3, none⟩ u3).setCell ⟨b2, 4, none⟩ u4).setCell ⟨b2, 5, none⟩ u5).setCell ⟨b3, 0, none⟩ m0).setCell ⟨b3, 1, none⟩ m1) (fun k => k = b2 ∨ k = b3) := by
 have h0 : Fr w w (fun k => k = b2 ∨ k = b3) := Fr.refl _ _
 exact ((h0.step (fr6 w b2 u0 u1 u2 u3 u4 u5) (fun _ h => .inl (.inl h))).set (b := b3) (.inl (.inr rfl)) 0 m0).set (b := b3) (.inl (.inr rfl)) 1 m1
theorem parse_end {w w5 w6 : World} {R0 : Nat → Prop} {t : T} {v : Kc} {lo hi b2 b3 : Nat} (hg : T.Got w5 R0 t lo hi v) (hb : Below w.heap.size w w6) (hb6 : Below w5.heap.size w5 w6) (h0 : ∀ b, R0 b → w.heap.size ≤ b ∧ b < w5.heap.size) (hlo : w.heap.size ≤ lo) (l2 : w.heap.size ≤ b2) (l3 : w.heap.size ≤ b3) (h2 : ∀ b, R0 b → b ≠ b2 ∧ b ≠ b3) (h23 : b2 < lo ∧ b3 < lo) (hhi : hi ≤ w5.heap.size) {u0 u1 u2 u3 u4 u5 m0 m1 : Value} (e : v = (u0, u1, u2, u3, u4, u5)) :
    ∃ v', (Ending.returned (.tuple #[.agg #[u0, u1, u2, u3, u4, u5], .agg #[m0, m1]]) : Ending) = .returned (.tuple #[kv v', .agg #[m0, m1]]) ∧
     T.Got ((((((((w6.setCell ⟨b2, 0, none⟩ u0).setCell ⟨b2, 1, none⟩ u1).setCell ⟨b2, 2, none⟩ u2).setCell ⟨b2, 3, none⟩ u3).setCell ⟨b2, 4, none⟩ u4).setCell ⟨b2, 5, none⟩ u5).setCell ⟨b3, 0, none⟩ m0).setCell ⟨b3, 1, none⟩ m1).drew (fun b => w.heap.size ≤ b ∧ b < ((((((((w6.setCell ⟨b2, 0, none⟩ u0).setCell ⟨b2, 1, none⟩ u1).setCell ⟨b2, 2, none⟩ u2).setCell ⟨b2, 3, none⟩ u3).setCell ⟨b2, 4, none⟩ u4).setCell ⟨b2, 5, none⟩ u5).setCell ⟨b3, 0, none⟩ m0).setCell ⟨b3, 1, none⟩ m1).drew.heap.size) t w.heap.size ((((((((w6.setCell ⟨b2, 0, none⟩ u0).setCell ⟨b2, 1, none⟩ u1).setCell ⟨b2, 2, none⟩ u2).setCell ⟨b2, 3, none⟩ u3).setCell ⟨b2, 4, none⟩ u4).setCell ⟨b2, 5, none⟩ u5).setCell ⟨b3, 0, none⟩ m0).setCell ⟨b3, 1, none⟩ m1).drew.heap.size v' ∧
     Below w.heap.size w ((((((((w6.setCell ⟨b2, 0, none⟩ u0).setCell ⟨b2, 1, none⟩ u1).setCell ⟨b2, 2, none⟩ u2).setCell ⟨b2, 3, none⟩ u3).setCell ⟨b2, 4, none⟩ u4).setCell ⟨b2, 5, none⟩ u5).setCell ⟨b3, 0, none⟩ m0).setCell ⟨b3, 1, none⟩ m1).drew := by
  have hf : Fr w6 ((((((((w6.setCell ⟨b2, 0, none⟩ u0).setCell ⟨b2, 1, none⟩ u1).setCell ⟨b2, 2, none⟩ u2).setCell ⟨b2, 3, none⟩ u3).setCell ⟨b2, 4, none⟩ u4).setCell ⟨b2, 5, none⟩ u5).setCell ⟨b3, 0, none⟩ m0).setCell ⟨b3, 1, none⟩ m1).drew (fun k => k = b2 ∨ k = b3) := by
   have h0 : Fr w6 w6 (fun k => k = b2 ∨ k = b3) := Fr.refl _ _
   exact (((h0.step (fr6 w6 b2 u0 u1 u2 u3 u4 u5) (fun _ h => .inl (.inl h))).set (b := b3) (.inl (.inr rfl)) 0 m0).set (b := b3) (.inl (.inr rfl)) 1 m1).drew
  obtain ⟨wf, hwf⟩ : ∃ wf, ((((((((w6.setCell ⟨b2, 0, none⟩ u0).setCell ⟨b2, 1, none⟩ u1).setCell ⟨b2, 2, none⟩ u2).setCell ⟨b2, 3, none⟩ u3).setCell ⟨b2, 4, none⟩ u4).setCell ⟨b2, 5, none⟩ u5).setCell ⟨b3, 0, none⟩ m0).setCell ⟨b3, 1, none⟩ m1).drew = wf := ⟨_, rfl⟩
  rw [hwf] at hf ⊢
  have hs := hf.size
  have hs6 := hb6.size
  have hbf : Below w.heap.size w wf := below_fr hb hf (by rintro k (h | h) <;> omega)
  subst e
  refine ⟨(u0, u1, u2, u3, u4, u5), rfl, ?_, hbf⟩
  have hg6 := (hg.later hb6 hhi).fr hf (fun b hb e => by have := h2 b hb; rcases e with e | e <;> omega) (fun b h1 _ _ e => by rcases e with e | e <;> omega) (by omega)
  exact T.GotE.r0 (fun b h => ⟨(h0 b h).1, by have := (h0 b h).2; omega⟩) _ _ _ _ (hg6.wide hlo (by omega))
set_option maxRecDepth 100000 in
set_option maxHeartbeats 6400000 in
theorem parse_main (w : World) (S : ByteArray) (hS : S.size ≤ 4096) (hc : (X.ans S.data.toList).2.1 = 0) (hpp : (X.ans S.data.toList).2.2 = 0) (hln : (X.ans S.data.toList).1.length ≤ 4096) (hdot : DotOk (X.tks S.data.toList (X.ans S.data.toList).1))
    (hbk : ∀ t r, P.G S.size (P.fuel (X.tks S.data.toList (X.ans S.data.toList).1)) .form (X.tks S.data.toList (X.ans S.data.toList).1) = .ok t r → t.bulk ≤ 1048576) :
    Calls Tryz.prog 12 #[.string S] w fun ex w' => ∃ v, ex = .returned (.tuple #[kv v, .agg #[.int .i64 ((P.res S).1 : Nat), .int .i64 ((P.res S).2.1 : Nat)]]) ∧ T.Got w' (fun b => w.heap.size ≤ b ∧ b < w'.heap.size) (P.res S).2.2 w.heap.size w'.heap.size v ∧ Below w.heap.size w w' := by
  have hres : P.res S = P.resOf (P.read S.size (X.tks S.data.toList (X.ans S.data.toList).1)) := by
   unfold P.res
   rw [if_neg (by omega), if_neg (by rw [hc]; exact fun h => h rfl)]
  rw [hres]
  clear hres
  obtain ⟨W, hW, p2, p3, hsz, hbW⟩ := enter_p w
  obtain ⟨b2, hb2⟩ : ∃ b, b = w.heap.size := ⟨_, rfl⟩
  obtain ⟨b3, hb3⟩ : ∃ b, b = w.heap.size + 1 := ⟨_, rfl⟩
  rw [← hb2] at p2
  rw [← hb3] at p3
  have d1 : decide ((4096 : Int) < S.size) = false := decide_eq_false (by omega)
  have d2 : decide ((S.size : Int) > 4096) = false := decide_eq_false (by omega)
  have HW := Lib.hid hW
  have HB2 := Lib.hid hb2
  have HB3 := Lib.hid hb3
  have HSZ := Lib.hid hsz
  have hn23 : b2 ≠ b3 := by omega
  clear hW hb2 hb3 hsz
  obtain ⟨⟨t1, cd, pp⟩, ht⟩ : ∃ t, X.ans S.data.toList = t := ⟨_, rfl⟩
  rw [ht] at hc hpp hln hdot hbk ⊢
  dsimp only at hc hpp hln hdot hbk ⊢
  subst hc
  subst hpp
  have HT := Lib.hid ht
  clear ht
  obtain ⟨ws, hws⟩ : ∃ ws, X.tks S.data.toList t1 = ws := ⟨_, rfl⟩
  rw [hws] at hdot hbk ⊢
  have hwl : ws.length = t1.length := by rw [← hws, X.tks_len]
  have HWS := Lib.hid hws
  have HDOT := Lib.hid hdot
  have HBK := Lib.hid hbk
  have HWL := Lib.hid hwl
  clear hws hdot hbk hwl
  refine calls_of_wp_defers Tryz.func12 rfl ?_
  simp only [Tryz.ntmps12, List.size_toArray, List.length_cons, List.length_nil, Nat.reduceAdd, Nat.reduceSub, Array.replicate_succ, Array.replicate_zero, List.push_toArray, List.append_toArray, List.nil_append, List.cons_append]
  generalize hQ : bodyPostD Tryz.prog Tryz.f12 _ = Q
  have HQ := Lib.hid hQ
  clear hQ
  go_upto_region 1 with (fail)
  rw [← HW.out]
  (try rw [← HB3.out])
  (try rw [← HB2.out])
  go_upto_region 4 with (go_at_call 36; refine (tokens_x _ S).mono ?_; rw [HT.out]; dsimp only; rintro ex w1 ⟨v, rs, rfl, hown, htk, hb1⟩; have p31 := p3.below hb1; obtain ⟨⟨r0, r1⟩, y0, y1⟩ := p31.facts2)
  clear r0 r1 y0 y1
  obtain ⟨A0, c0, hv⟩ := hown.slice
  have hrl : rs.length = ws.length := by rw [HWL.out]; exact htk.1
  rw [hrl] at hv
  subst hv
  obtain ⟨R0, hRd⟩ : ∃ R0 : Nat → Prop, R0 = fun b => W.heap.size ≤ b ∧ b < w1.heap.size := ⟨_, rfl⟩
  have hRa : ∀ b, R0 b → W.heap.size ≤ b ∧ b < w1.heap.size := fun b h => by rw [hRd] at h; exact h
  have hwd1 := wds_tok (R0 := R0) (by rw [← HWL.out]; exact hown) htk (fun b h1 h2 => by rw [hRd]; exact ⟨h1, h2⟩)
  clear hRd
  rw [HWS.out] at hwd1
  clear hown htk hrl
  have p21 := p2.below hb1
  have l2 : w.heap.size ≤ b2 := Nat.le_of_eq HB2.out.symm
  have l3 : w.heap.size ≤ b3 := by have := HB3.out; omega
  have p32 := p31.set2 (.int .i64 0) (.int .i64 0)
  have p22 := (p21.far hn23 0 (.int .i64 0)).far hn23 1 (.int .i64 0)
  have hf2 : Fr w1 ((w1.setCell ⟨b3, 0, none⟩ (.int .i64 0)).setCell ⟨b3, 1, none⟩ (.int .i64 0)) (fun k => k = b3) := by
   have h0 : Fr w1 w1 (fun k => k = b3) := Fr.refl _ _
   exact (h0.set (b := b3) (.inl rfl) 0 _).set (b := b3) (.inl rfl) 1 _
  obtain ⟨w2, hw2⟩ : ∃ W, (w1.setCell ⟨b3, 0, none⟩ (.int .i64 0)).setCell ⟨b3, 1, none⟩ (.int .i64 0) = W := ⟨_, rfl⟩
  rw [hw2] at p32 p22 hf2 ⊢
  have hb02 : Below w.heap.size w w2 := by rw [← hw2]; exact ((below_on hbW hb1).setCell l3 _).setCell l3 _
  clear hw2 p31 p21
  obtain ⟨⟨q0, q1, q2, q3, q4, q5⟩, x0, x1, x2, x3, x4, x5⟩ := p22.open6
  obtain ⟨⟨r0, r1⟩, y0, y1⟩ := p32.facts2
  have hs1 := hb1.size
  have hs2 := hf2.size
  have hmf : ∀ (fn : Fn) (first cap : Array Value) (w : World), (Instr.makeFunc fn first cap).run Tryz.prog w = .ok (.func fn first cap) w := fun _ _ _ _ => rfl
  go_upto_region 8 with (fail)
  obtain ⟨w3, hw3, pR, hb3'⟩ := made_blk w2 #[.slice A0 ws.length c0, .int .i64 0, .int .i64 (S.size : Nat)] 66
  obtain ⟨R, hR⟩ : ∃ R, R = w2.heap.size := ⟨_, rfl⟩
  rw [← hw3, ← hR]
  rw [← hR] at pR
  clear hw3
  have hR0 : ∀ b, R0 b → b < w3.heap.size := fun b h => by have := hRa b h; have := hb3'.size; omega
  have hb3l : b3 < W.heap.size := p3.lt
  have hb2l : b2 < W.heap.size := p2.lt
  have hwd3 := (hwd1.keep (Kp.of_fr hf2 (fun b hb e => by have : b = b3 := e; have := (hRa b hb).1; omega))).keep (.of_below hb3')
  have hp3 : Pa w3 R R0 A0 c0 ws S.size 0 := ⟨pR, (fun h => by have := (hRa R h).2; omega), hwd3, Nat.zero_le _, by rw [HWL.out]; omega⟩
  have q2 := p22.below hb3'
  have q3 := p32.below hb3'
  have hb03 := below_on hb02 hb3'
  have hne2 : ¬ b2 = R := by omega
  have hne3 : ¬ b3 = R := by omega
  have hRw : w.heap.size ≤ R := by have := hb02.size; omega
  have HRR := Lib.hid hR
  have hRl : R < w3.heap.size := pR.lt
  have hR1 : w1.heap.size ≤ R := by omega
  clear hR
  obtain ⟨fu, hfu⟩ : ∃ f, P.fuel ws = f := ⟨_, rfl⟩
  have hru := formula_w (R0 := R0) (A := A0) (c := c0) (e := S.size) HDOT.out fu
  have hd0 : ws = ws.drop 0 := rfl
  have htot : P.G S.size fu .form ws ≠ .out := by rw [← hfu]; exact P.G_total _ _ _ _ (by simp only [P.fuel, P.NT.rank]; omega)
  have hrd0 : P.read S.size ws = (P.G S.size fu .form ws).bind fun t r => if r.isEmpty then .ok t [] else P.wrong S.size r := by unfold P.read; rw [hfu]
  have hbk0 := HBK.out
  rw [hfu] at hbk0
  clear hfu HBK
  clear q0 q1 x0 x1 x2 x3 x4 x5 r0 r1 y0 y1
  cases hG : P.G S.size fu .form ws with
  | out => exact absurd hG htot
  | bad cd p =>
   have hrd : P.read S.size ws = .bad cd p := by rw [hrd0, hG]; rfl
   have hG0 : P.G S.size fu .form (ws.drop 0) = .bad cd p := hG
   have HRD := Lib.hid hrd
   have HG := Lib.hid hG0
   clear hrd hG hG0 hd0 hrd0 hbk0 htot
   go_wp2_with (go_at_call 38; refine (hru.bad hp3 hR0 HG.out).mono ?_; rintro ex w4 ⟨rfl, hf4⟩)
   have k2 := hf4.blk q2 hne2
   have k3 := hf4.blk q3 hne3
   have hb4 : Below w.heap.size w w4 := below_fr hb03 hf4 (fun k h => by have : k = R := h; omega)
   rw [← HQ.out]
   refine leaves_cons (f := 37) (args := #[.pointer (some ⟨b2, 0, none⟩), .pointer (some ⟨b3, 0, none⟩)]) (by simp) (by simp [go_sem]) ?_
   refine (catch_stop b2 b3 cd p _ _ _ _ _ _ _ _ _ k2 k3 hn23).mono ?_
   rintro e u' w5 ⟨rfl, rfl, g2, g3, hf5⟩
   refine ⟨_, results_p rfl _ _ _ _ _ _ _ _ _ _ _ _ rfl rfl g2 g3, ?_⟩
   rw [HRD.out]
   have hb5 : Below w.heap.size w w5 := below_fr hb4 hf5 (by rintro k (h | h) <;> omega)
   exact ⟨kc0, rfl, kz_got _ _ _ _ hb5.size, hb5⟩
  | ok t r =>
   have hbt := hbk0 t r hG
   have hrd : P.read S.size ws = if r.isEmpty then .ok t [] else P.wrong S.size r := by rw [hrd0, hG]; rfl
   have hG0 : P.G S.size fu .form (ws.drop 0) = .ok t r := hG
   have HRD := Lib.hid hrd
   have HG := Lib.hid hG0
   clear hrd hG hG0 hd0 hrd0 hbk0 htot
   go_upto_region 9 with (go_at_call 38; refine (hru.ok hp3 hR0 HG.out).mono ?_; rintro ex w4 ⟨v, a4, rfl, rfl, hp4, hg4, hf4⟩; obtain ⟨F1, f1, F2, f2, F3, f3, rfl⟩ := hg4.form; have k2 := hf4.blk q2 hne2; obtain ⟨⟨z0, z1, z2, z3, z4, z5⟩, x0, x1, x2, x3, x4, x5⟩ := k2.open6)
   clear z0 z1 z2 z3 z4 z5 x0 x1 x2 x3 x4 x5
   have k3 := hf4.blk q3 hne3
   have h6 := fr6 w4 b2 (.int .i64 t.k) (.string t.nm) (.slice F1 t.ns.length f1) (.bool t.ng) (.slice F2 t.mg.length f2) (.slice F3 t.ks.length f3)
   have m2 := k2.set6 (.int .i64 t.k) (.string t.nm) (.slice F1 t.ns.length f1) (.bool t.ng) (.slice F2 t.mg.length f2) (.slice F3 t.ks.length f3)
   have m3 := h6.blk k3 (fun e => hn23 e.symm)
   have hs3 := hb3'.size
   have hs4 := hf4.size
   have hp5 := Pa.mk5 hp4 h6 (fun e => hne2 e.symm) (fun b hb e => by have : b = b2 := e; have := (hRa b hb).1; omega)
   have hg5 := hg4.fr h6 (fun b hb e => by have : b = b2 := e; have := (hRa b hb).1; omega) (fun b h1 _ _ e => by have : b = b2 := e; omega) (Nat.le_refl _)
   have hb4 : Below w.heap.size w w4 := below_fr hb03 hf4 (fun k h => by have : k = R := h; omega)
   have hb5 := below_fr hb4 h6 (fun k h => by have : k = b2 := h; omega)
   have hs5 := h6.size
   obtain ⟨w5, hw5⟩ : ∃ W, ((((((w4.setCell ⟨b2, 0, none⟩ (.int .i64 t.k)).setCell ⟨b2, 1, none⟩ (.string t.nm)).setCell ⟨b2, 2, none⟩ (.slice F1 t.ns.length f1)).setCell ⟨b2, 3, none⟩ (.bool t.ng)).setCell ⟨b2, 4, none⟩ (.slice F2 t.mg.length f2)).setCell ⟨b2, 5, none⟩ (.slice F3 t.ks.length f3)) = W := ⟨_, rfl⟩
   rw [hw5] at h6 m2 m3 hp5 hg5 hb5 hs5 ⊢
   clear hw5 k2 k3 hp4 hb4 hru hp3 q2 q3 hwd3 pR p22 p32 p2 p3 hwd1
   obtain ⟨v0, v1, v2⟩ := three hp5.1
   by_cases hlt : a4 < ws.length
   ·
    have e1 : decide (a4 < ws.length) = true := decide_eq_true hlt
    have hne : (ws.drop a4).isEmpty = false := by
     rw [List.isEmpty_eq_false_iff]
     intro h
     have := congrArg List.length h
     simp at this
     omega
    have hrd := HRD.out
    rw [hne, if_neg (by decide)] at hrd
    have HRD2 := Lib.hid hrd
    clear hne hrd HRD
    go_wp2_with (go_at_call 39; refine (wrong_r hp5).mono ?_; rintro ex w6 ⟨cd, p, hwr, rfl, hb6⟩)
    rw [← HQ.out]
    refine leaves_cons (f := 37) (args := #[.pointer (some ⟨b2, 0, none⟩), .pointer (some ⟨b3, 0, none⟩)]) (by simp) (by simp [go_sem]) ?_
    refine (catch_stop b2 b3 cd p _ _ _ _ _ _ _ _ _ (m2.below hb6) (m3.below hb6) hn23).mono ?_
    rintro e u' w7 ⟨rfl, rfl, g2, g3, hf7⟩
    refine ⟨_, results_p rfl _ _ _ _ _ _ _ _ _ _ _ _ rfl rfl g2 g3, ?_⟩
    rw [HRD2.out, hwr]
    have hb7 : Below w.heap.size w w7 := below_fr (below_on hb5 hb6) hf7 (by rintro k (h | h) <;> omega)
    exact ⟨kc0, rfl, kz_got _ _ _ _ hb7.size, hb7⟩
   ·
    have e1 : decide (a4 < ws.length) = false := decide_eq_false hlt
    have hne : ws.drop a4 = [] := List.drop_eq_nil_of_le (by omega)
    have hrd := HRD.out
    rw [hne] at hrd
    have hrd : P.read S.size ws = .ok t [] := hrd
    have HRD2 := Lib.hid hrd
    have HIN := Lib.hid (hg5.In t _ _ _ (fun _ => True) (fun _ _ => trivial) (fun _ _ _ => trivial))
    obtain ⟨dd, hdd⟩ : ∃ d, t.depth = d := ⟨_, rfl⟩
    have hdt := fun (w' : World) (h : Below w5.heap.size w5 w') => depth_t 1048576 t w' (fun _ => True) _ hbt (Nat.le_refl _) (HIN.out.below h)
    rw [hdd] at hdt
    have HDT := Lib.hid hdt
    have HDD := Lib.hid hdd
    clear hne hrd HRD hdt hdd
    by_cases hdp : 60 < dd
    ·
     have e2 : decide ((60 : Int) < dd) = true := decide_eq_true (by omega)
     have e3 : decide ((dd : Int) > 60) = true := decide_eq_true (by omega)
     obtain ⟨_, u0, u1, u2, u3, u4, u5⟩ := m2.open6
     go_upto_region 12 with (go_at_call 40; refine (HDT.out _ (Below.refl _ _)).mono ?_; rintro ex w6 ⟨rfl, hb6⟩)
     clear u0 u1 u2 u3 u4 u5 v0 v1 v2
     have n2 := m2.below hb6
     have n3 := m3.below hb6
     have hs6 := hb6.size
     have hb06 := below_on hb5 hb6
     obtain ⟨⟨z0, z1, z2, z3, z4, z5⟩, x0, x1, x2, x3, x4, x5⟩ := n2.open6
     obtain ⟨⟨r0, r1⟩, y0, y1⟩ := n3.facts2
     go_wp2_with fail
     rw [← HQ.out]
     refine leaves_cons (f := 37) (args := #[.pointer (some ⟨b2, 0, none⟩), .pointer (some ⟨b3, 0, none⟩)]) (by simp) (by simp [go_sem]) ?_
     refine (catch_idle b2 b3 _).mono ?_
     rintro e u' w7 ⟨rfl, rfl, rfl⟩
     refine ⟨_, results_p rfl _ _ _ _ _ _ _ _ _ _ _ _ rfl rfl ((((n2.set6 _ _ _ _ _ _).far hn23 _ _).far hn23 _ _)) (((((((n3.far hn23.symm _ _).far hn23.symm _ _).far hn23.symm _ _).far hn23.symm _ _).far hn23.symm _ _).far hn23.symm _ _).set2 _ _), ?_⟩
     rw [HRD2.out, P.resOf, if_pos (by rw [HDD.out]; exact hdp)]
     have hbf := below_fr hb06 (fr8 w6 b2 b3 (.int .i64 0) (.string ⟨#[]⟩) (.slice none 0 0) (.bool false) (.slice none 0 0) (.slice none 0 0) (.int .i64 43) (.int .i64 0)) (by rintro k (h | h) <;> omega)
     exact ⟨kc0, rfl, kz_got _ _ _ _ hbf.size, hbf⟩
    ·
     have e2 : decide ((60 : Int) < dd) = false := decide_eq_false (by omega)
     have e3 : decide ((dd : Int) > 60) = false := decide_eq_false (by omega)
     obtain ⟨_, u0, u1, u2, u3, u4, u5⟩ := m2.open6
     go_upto_region 13 with (go_at_call 40; refine (HDT.out _ (Below.refl _ _)).mono ?_; rintro ex w6 ⟨rfl, hb6⟩)
     clear u0 u1 u2 u3 u4 u5 v0 v1 v2
     have n2 := m2.below hb6
     have n3 := m3.below hb6
     have hs6 := hb6.size
     have hb06 := below_on hb5 hb6
     obtain ⟨⟨z0, z1, z2, z3, z4, z5⟩, x0, x1, x2, x3, x4, x5⟩ := n2.open6
     obtain ⟨⟨r0, r1⟩, y0, y1⟩ := n3.facts2
     go_region
     all_goals
      go_wp2_with fail
      rw [← HQ.out]
      refine leaves_cons (f := 37) (args := #[.pointer (some ⟨b2, 0, none⟩), .pointer (some ⟨b3, 0, none⟩)]) (by simp) (by simp [go_sem]) ?_
      refine (catch_idle b2 b3 _).mono ?_
      rintro e u' w7 ⟨rfl, rfl, rfl⟩
      refine ⟨_, results_p rfl _ _ _ _ _ _ _ _ _ _ _ _ rfl rfl ((((n2.set6 _ _ _ _ _ _).far hn23 _ _).far hn23 _ _).drew) ((((((((n3.far hn23.symm _ _).far hn23.symm _ _).far hn23.symm _ _).far hn23.symm _ _).far hn23.symm _ _).far hn23.symm _ _).set2 _ _).drew), ?_⟩
      rw [HRD2.out, P.resOf, if_neg (by rw [HDD.out]; exact hdp)]
      exact parse_end hg5 hb06 hb6 (fun b h => by have := hRa b h; have := hbW.size; exact ⟨by omega, by omega⟩) (by have := hbW.size; omega) l2 l3 (fun b h => by have := hRa b h; exact ⟨by omega, by omega⟩) ⟨by omega, by omega⟩ hs5 rfl
end
section
open Go.RowKit
namespace P
def NT.carry : NT → Nat
 | .formL t => t.bulk | .orL ks => T.bulks ks + 1 | .andL ks => T.bulks ks + 1 | .sumL t => t.bulk
 | _ => 0
def NT.gain (nt : NT) (l : List Wd) : Nat := match nt with
 | .formL _ | .sumL _ => 0
 | .orL _ => if isW ⟨#[111, 114]⟩ l then 1 else 0
 | .andL _ => if isW ⟨#[97, 110, 100]⟩ l then 1 else 0
 | _ => 1
theorem wsum_cons (t : Wd) (r : List Wd) : wsum (t :: r) = t.2.1.size + t.2.2.1.length + 2 + wsum r := by simp [wsum, wt]
theorem wsum_tail (l : List Wd) : wsum l.tail ≤ wsum l := by
 cases l with
 | nil => exact Nat.le_refl _
 | cons t r => rw [wsum_cons]; show wsum r ≤ _; omega
theorem wsum_isW {s : ByteArray} {l : List Wd} (h : isW s l = true) : wsum l.tail + 2 ≤ wsum l := by
 obtain ⟨t, r, rfl, _⟩ := isW_cons h
 rw [wsum_cons]
 show wsum r + 2 ≤ _
 omega
theorem wsum_kd {l : List Wd} {k : Nat} (h : kd l = k) (hk : k ≠ 0) : wsum l.tail + (tx l).size + (mg l).length + 2 ≤ wsum l := by
 obtain ⟨t, r, rfl, _⟩ := kd_cons h hk
 rw [wsum_cons]
 show wsum r + t.2.1.size + t.2.2.1.length + 2 ≤ _
 omega
theorem wsum_nms : ∀ (l : List Wd), sbulk (nms l) + (nms l).length + wsum (beh l) ≤ wsum l
 | [] => by simp [nms, beh, sbulk]
 | t :: r => by
  have ih := wsum_nms r
  by_cases h : (t.1 == 2) = true
  · have e1 : nms (t :: r) = t.2.1 :: nms r := by simp [nms, h]
    have e2 : beh (t :: r) = beh r := by simp [beh, h]
    rw [e1, e2, wsum_cons]
    simp only [sbulk, List.map_cons, List.sum_cons, List.length_cons] at ih ⊢
    omega
  · have e1 : nms (t :: r) = [] := by simp [nms, h]
    have e2 : beh (t :: r) = t :: r := by simp [beh, h]
    rw [e1, e2]
    simp [sbulk]
theorem bulk_nd1 (k : Int) (u : T) : (nd k [u]).bulk = u.bulk + 1 := by simp [nd, T.bulk, T.bulks, sbulk]; rfl
theorem bulk_nd2 (k : Int) (t u : T) : (nd k [t, u]).bulk = t.bulk + u.bulk + 1 := by simp [nd, T.bulk, T.bulks, sbulk]; rfl
theorem bulk_nd (k : Int) (ks : List T) : (nd k ks).bulk = T.bulks ks + 1 := by simp [nd, T.bulk, sbulk]; rfl
theorem bulk_mg (k : Int) (m : List Nat) (u : T) : (T.node k ⟨#[]⟩ [] false m [u]).bulk = m.length + u.bulk + 1 := by simp [T.bulk, T.bulks, sbulk]; rfl
theorem bulk_leaf (k : Int) (m : List Nat) : (T.node k ⟨#[]⟩ [] false m []).bulk = m.length + 1 := by simp [T.bulk, T.bulks, sbulk]; rfl
theorem bulk_var (k : Int) (s : ByteArray) : (T.node k s [] false [] []).bulk = s.size + 1 := by simp [T.bulk, T.bulks, sbulk]
theorem bulk_bnd (k : Int) (ns : List ByteArray) (u : T) : (T.node k ⟨#[]⟩ ns false [] [u]).bulk = sbulk ns + u.bulk + 1 := by simp [T.bulk, T.bulks]; rfl
theorem bulks_snoc : ∀ (ks : List T) (u : T), T.bulks (ks ++ [u]) = T.bulks ks + u.bulk
 | [], u => by simp [T.bulks]
 | t :: r, u => by simp only [List.cons_append, T.bulks]; rw [bulks_snoc r u]; omega
theorem G_bulk (e : Nat) : ∀ (f : Nat) (nt : NT) (l : List Wd) (t : T) (r : List Wd), G e f nt l = .ok t r → t.bulk + wsum r + nt.gain l ≤ wsum l + nt.carry
 | 0, _, _, _, _, h => by cases h
 | f + 1, nt, l, t, r, h => by
  have ih := G_bulk e f
  rw [G_succ] at h
  cases nt with
  | form =>
   obtain ⟨u, s, h1, h2⟩ := Rd.bind_ok h
   have a := ih _ _ _ _ h1
   have b := ih _ _ _ _ h2
   simp only [NT.gain, NT.carry] at a b ⊢
   omega
  | formL t0 =>
   unfold step at h
   dsimp only at h
   split at h
   · rename_i hw
     have := wsum_isW hw
     obtain ⟨u, s, h1, h2⟩ := Rd.bind_ok h
     have a := ih _ _ _ _ h1
     have b := ih _ _ _ _ h2
     simp only [NT.gain, NT.carry, bulk_nd2] at a b ⊢
     omega
   · injection h with h1 h2
     subst h1; subst h2
     simp only [NT.gain, NT.carry]
     omega
  | impl =>
   obtain ⟨u, s, h1, h2⟩ := Rd.bind_ok h
   have a := ih _ _ _ _ h1
   split at h2
   ·
    rename_i hw
    have := wsum_isW hw
    obtain ⟨u', s', h3, h4⟩ := Rd.bind_ok h2
    have b := ih _ _ _ _ h3
    injection h4 with h5 h6
    subst h5; subst h6
    simp only [NT.gain, NT.carry, bulk_nd2] at a b ⊢
    omega
   · injection h2 with h3 h4
     subst h3; subst h4
     simp only [NT.gain, NT.carry] at a ⊢
     omega
  | ored =>
   obtain ⟨u, s, h1, h2⟩ := Rd.bind_ok h
   have a := ih _ _ _ _ h1
   split at h2
   · rename_i hw
     have b := ih _ _ _ _ h2
     simp only [NT.gain, NT.carry, hw, if_true, T.bulks] at a b ⊢
     omega
   · injection h2 with h3 h4
     subst h3; subst h4
     simp only [NT.gain, NT.carry] at a ⊢
     omega
  | orL ks =>
   unfold step at h
   dsimp only at h
   split at h
   · rename_i hw
     have := wsum_isW hw
     obtain ⟨u, s, h1, h2⟩ := Rd.bind_ok h
     have a := ih _ _ _ _ h1
     have b := ih _ _ _ _ h2
     simp only [NT.gain, NT.carry, hw, if_true, bulks_snoc] at a b ⊢
     omega
   · rename_i hw
     injection h with h1 h2
     subst h1; subst h2
     simp only [NT.gain, NT.carry, if_neg hw, bulk_nd]
     omega
  | anded =>
   obtain ⟨u, s, h1, h2⟩ := Rd.bind_ok h
   have a := ih _ _ _ _ h1
   split at h2
   · rename_i hw
     have b := ih _ _ _ _ h2
     simp only [NT.gain, NT.carry, hw, if_true, T.bulks] at a b ⊢
     omega
   · injection h2 with h3 h4
     subst h3; subst h4
     simp only [NT.gain, NT.carry] at a ⊢
     omega
  | andL ks =>
   unfold step at h
   dsimp only at h
   split at h
   · rename_i hw
     have := wsum_isW hw
     obtain ⟨u, s, h1, h2⟩ := Rd.bind_ok h
     have a := ih _ _ _ _ h1
     have b := ih _ _ _ _ h2
     simp only [NT.gain, NT.carry, hw, if_true, bulks_snoc] at a b ⊢
     omega
   · rename_i hw
     injection h with h1 h2
     subst h1; subst h2
     simp only [NT.gain, NT.carry, if_neg hw, bulk_nd]
     omega
  | notted =>
   have hbd : ∀ k, wsum l.tail + 2 ≤ wsum l → bound e (G e f) k l.tail = .ok t r → t.bulk + wsum r + 1 ≤ wsum l := fun k hl hk => by
    unfold bound at hk
    split at hk
    · exact (wrong_ok hk).elim
    · have h0 := wsum_nms l.tail
      have h01 := wsum_tail (beh l.tail)
      obtain ⟨u, s, h1, h2⟩ := Rd.bind_ok hk
      have a := ih _ _ _ _ h1
      injection h2 with h3 h4
      subst h3; subst h4
      simp only [NT.gain, NT.carry, bulk_bnd] at a ⊢
      omega
   unfold step at h
   dsimp only at h
   split at h
   ·
    rename_i hw
    have := wsum_isW hw
    obtain ⟨u, s, h1, h2⟩ := Rd.bind_ok h
    have a := ih _ _ _ _ h1
    injection h2 with h3 h4
    subst h3; subst h4
    simp only [NT.gain, NT.carry, bulk_nd1] at a ⊢
    omega
   · split at h
     · rename_i hw
       exact hbd _ (wsum_isW hw) h
     · split at h
       · rename_i hw
         exact hbd _ (wsum_isW hw) h
       · exact ih .prim _ _ _ h
  | prim =>
   unfold step at h
   dsimp only at h
   split at h
   · rename_i hw
     have := wsum_isW hw
     injection h with h1 h2
     subst h1; subst h2
     simp only [NT.gain, NT.carry, bulk_nd, T.bulks]
     omega
   split at h
   · rename_i hw
     have := wsum_isW hw
     injection h with h1 h2
     subst h1; subst h2
     simp only [NT.gain, NT.carry, bulk_nd, T.bulks]
     omega
   split at h
   ·
    have h00 := wsum_tail l
    obtain ⟨u, s, h1, h2⟩ := Rd.bind_ok h
    have a := ih _ _ _ _ h1
    have h01 := wsum_tail s
    split at h2
    · injection h2 with h3 h4
      subst h3; subst h4
      simp only [NT.gain, NT.carry] at a ⊢
      omega
    · exact (wrong_ok h2).elim
   split at h
   ·
    rename_i hc
    split at h
    · cases h
    ·
     have hk : kd l = 1 := by simp at hc; exact hc.1
     have h00 := wsum_kd hk (by decide)
     have h01 := wsum_tail l.tail
     obtain ⟨u, s, h1, h2⟩ := Rd.bind_ok h
     have a := ih _ _ _ _ h1
     injection h2 with h3 h4
     subst h3; subst h4
     simp only [NT.gain, NT.carry, bulk_mg] at a ⊢
     omega
   ·
    obtain ⟨u, s, h1, h2⟩ := Rd.bind_ok h
    have a := ih _ _ _ _ h1
    split at h2
    · exact (wrong_ok h2).elim
    · have h01 := wsum_tail s
      obtain ⟨u', s', h3, h4⟩ := Rd.bind_ok h2
      have b := ih _ _ _ _ h3
      injection h4 with h5 h6
      subst h5; subst h6
      simp only [NT.gain, NT.carry, bulk_nd2] at a b ⊢
      omega
  | sum =>
   obtain ⟨u, s, h1, h2⟩ := Rd.bind_ok h
   have a := ih _ _ _ _ h1
   have b := ih _ _ _ _ h2
   simp only [NT.gain, NT.carry] at a b ⊢
   omega
  | sumL t0 =>
   unfold step at h
   dsimp only at h
   split at h
   · rename_i hw
     have := wsum_isW hw
     obtain ⟨u, s, h1, h2⟩ := Rd.bind_ok h
     have a := ih _ _ _ _ h1
     have b := ih _ _ _ _ h2
     simp only [NT.gain, NT.carry, bulk_nd2] at a b ⊢
     omega
   ·
    split at h
    · rename_i hw
      have := wsum_isW hw
      obtain ⟨u, s, h1, h2⟩ := Rd.bind_ok h
      have a := ih _ _ _ _ h1
      have b := ih _ _ _ _ h2
      simp only [NT.gain, NT.carry, bulk_nd2] at a b ⊢
      omega
    · injection h with h1 h2
      subst h1; subst h2
      simp only [NT.gain, NT.carry]
      omega
  | oper =>
   unfold step at h
   dsimp only at h
   split at h
   ·
    rename_i hw
    have := wsum_isW hw
    obtain ⟨u, s, h1, h2⟩ := Rd.bind_ok h
    have a := ih _ _ _ _ h1
    injection h2 with h3 h4
    subst h3; subst h4
    simp only [NT.gain, NT.carry, bulk_nd1] at a ⊢
    omega
   split at h
   ·
    have h00 := wsum_tail l
    obtain ⟨u, s, h1, h2⟩ := Rd.bind_ok h
    have a := ih _ _ _ _ h1
    have h01 := wsum_tail s
    split at h2
    · injection h2 with h3 h4
      subst h3; subst h4
      simp only [NT.gain, NT.carry] at a ⊢
      omega
    · exact (wrong_ok h2).elim
   split at h
   · rename_i hk
     have h00 := wsum_kd hk (by decide)
     injection h with h1 h2
     subst h1; subst h2
     simp only [NT.gain, NT.carry, bulk_var]
     omega
   split at h
   ·
    rename_i hk
    have h00 := wsum_kd hk (by decide)
    split at h
    · have h01 := wsum_tail l.tail
      obtain ⟨u, s, h1, h2⟩ := Rd.bind_ok h
      have a := ih _ _ _ _ h1
      injection h2 with h3 h4
      subst h3; subst h4
      simp only [NT.gain, NT.carry, bulk_mg] at a ⊢
      omega
    · injection h with h1 h2
      subst h1; subst h2
      simp only [NT.gain, NT.carry, bulk_leaf]
      omega
   · exact (wrong_ok h).elim
end P
end
section
open Go.RowKit
theorem tks_bulk (S : ByteArray) (hS : S.size ≤ 4096) (e f : Nat) (nt : P.NT) (hnt : nt.carry = 0) (t : T) (r : List Wd) (h : P.G e f nt (X.tks S.data.toList (X.ans S.data.toList).1) = .ok t r) : t.bulk ≤ 16384 := by
 have hl : S.data.toList.length ≤ 4096 := by
  have : S.data.toList.length = S.size := by rw [Array.length_toList]; rfl
  omega
 obtain ⟨a1, a2, a3, _⟩ := X.ans_facts S.data.toList hl
 have h1 := wsum_tks S.data.toList (X.ans S.data.toList).1 (fun x hx => (a1 x hx).1)
 have h2 := P.G_bulk e f nt _ t r h
 rw [hnt] at h2
 omega
theorem parse_x (w : World) (S : ByteArray) :
    Calls Tryz.prog 12 #[.string S] w fun ex w' => ∃ v, ex = .returned (.tuple #[kv v, .agg #[.int .i64 ((P.res S).1 : Nat), .int .i64 ((P.res S).2.1 : Nat)]]) ∧ T.Got w' (fun b => w.heap.size ≤ b ∧ b < w'.heap.size) (P.res S).2.2 w.heap.size w'.heap.size v ∧ Below w.heap.size w w' := by
  by_cases h1 : 4096 < S.size
  · have hr : P.res S = (40, 0, t0) := by unfold P.res; rw [if_pos h1]
    rw [hr]
    refine (parse_long w S h1).mono ?_
    rintro ex w' ⟨rfl, hb⟩
    exact ⟨kc0, rfl, kz_got _ _ _ _ hb.size, hb⟩
  ·
   by_cases h2 : (X.ans S.data.toList).2.1 ≠ 0
   · have hr : P.res S = ((X.ans S.data.toList).2.1, (X.ans S.data.toList).2.2, t0) := by unfold P.res; rw [if_neg h1, if_pos h2]
     rw [hr]
     refine (parse_err w S (by omega) h2).mono ?_
     rintro ex w' ⟨rfl, hb⟩
     exact ⟨kc0, rfl, kz_got _ _ _ _ hb.size, hb⟩
   · have h2 : (X.ans S.data.toList).2.1 = 0 := Decidable.not_not.1 h2
     have hl : S.data.toList.length ≤ 4096 := by
      have : S.data.toList.length = S.size := by rw [Array.length_toList]; rfl
      omega
     obtain ⟨_, a2, a3, a4⟩ := X.ans_facts S.data.toList hl
     exact parse_main w S (by omega) h2 (a4 h2) (by omega) (dot_ok _ hl) (fun t r h => by have := tks_bulk S (by omega) _ _ _ rfl t r h; omega)
end
end Go.Proofs.YthiadenmljbdaaaGreatDoor

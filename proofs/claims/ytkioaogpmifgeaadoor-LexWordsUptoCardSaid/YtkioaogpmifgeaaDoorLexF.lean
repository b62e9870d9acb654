/-
  lex.Tokens, riddlelaw03.known: contracts.
-/
import Derived.Test.YtkioaogpmifgeaaDoorLexE
namespace Go.Proofs.YtkioaogpmifgeaaDoor
open Go.RowKit

theorem Blk.drew {w : World} {b : Nat} {t : TypeId} {cs : Array Value} (h : Blk w b t cs) : Blk w.drew b t cs := h
theorem Toks.le {w : World} {base base' : Nat} {l : List UInt8} {rs : List Tk} {ps : List (Nat × Nat × Nat)} (h : Toks w base l rs ps) (hb : base' ≤ base) : Toks w base' l rs ps :=
  ⟨h.1, fun i hi => by obtain ⟨a, b, c, d⟩ := h.2 i hi; exact ⟨a, b, c, d.le hb⟩⟩
/-- What Tokens answers: no words where there is an error. -/
def X.ans (l : List UInt8) : List (Nat × Nat × Nat) × Nat × Nat := if (X.tokens l).2.1 = 0 then X.tokens l else ([], (X.tokens l).2)
theorem results_mis {fn : Func} {p u : Tmp} (h : fn.results = #[.tmp u, .cell p 25]) (tmps : Array Value) (w : World) (g : Nat) (t : TypeId) (a0 a1 : Value)
    (hp : tmps.getD p undef = .pointer (some ⟨g, 0, none⟩)) (hg : Blk w g t #[a0, a1]) :
    (results fn tmps).run Tryd.prog w = .ok (.tuple #[tmps.getD u undef, .agg #[a0, a1]]) w := by
  have hp' : tmps[p]?.getD undef = .pointer (some ⟨g, 0, none⟩) := by simpa using hp
  simp [results, h, hp', asAddr, run_loadVar_row w g _ 25 _ _ _ hg Tryd.underlying25 rfl sizeMis]
set_option maxRecDepth 100000 in
set_option maxHeartbeats 4000000 in
theorem tokens_x (w : World) (S : ByteArray) :
    Calls Tryd.prog 9 #[.string S] w fun e w' => ∃ v rs, e = .returned (.tuple #[v, .agg #[.int .i64 ((X.ans S.data.toList).2.1 : Nat), .int .i64 ((X.ans S.data.toList).2.2 : Nat)]]) ∧ OutT w' w.heap.size v rs ∧ Toks w' w.heap.size S.data.toList rs (X.ans S.data.toList).1 ∧ Below w.heap.size w w' := by
  obtain ⟨t1, t2, t3, ht⟩ : ∃ t1 t2 t3, X.tokens S.data.toList = (t1, t2, t3) := ⟨_, _, _, rfl⟩
  have ha : X.ans S.data.toList = if t2 = 0 then (t1, t2, t3) else ([], t2, t3) := by unfold X.ans; rw [ht]
  obtain ⟨a1, a2, a3, haa⟩ : ∃ a1 a2 a3, X.ans S.data.toList = (a1, a2, a3) := ⟨_, _, _, rfl⟩
  rw [haa] at ha ⊢
  dsimp only
  have HA := Lib.hid ha
  have HT := Lib.hid ht
  clear ha ht haa
  obtain ⟨W, hW, p3, p4, hsz, hbW⟩ : ∃ W : World, W = (w.alloc (.cells #[.int .i64 0, .int .i64 0] 25)).alloc (.cells #[.slice none 0 0] 28) ∧ Blk W w.heap.size 25 #[.int .i64 0, .int .i64 0] ∧ Blk W (w.heap.size + 1) 28 #[.slice none 0 0] ∧ W.heap.size = w.heap.size + 2 ∧ Below w.heap.size w W := by
    refine ⟨_, rfl, (Blk.new w _ _).below (below_alloc1 _ _), ?_, by simp, below_on (below_alloc1 _ _) (below_alloc1 _ _)⟩
    have := Blk.new (w.alloc (.cells #[.int .i64 0, .int .i64 0] 25)) 28 #[.slice none 0 0]
    rwa [show (w.alloc (.cells #[.int .i64 0, .int .i64 0] 25)).heap.size = w.heap.size + 1 by simp] at this
  have HW := Lib.hid hW
  clear hW
  go_enter Tryd.func9, Tryd.ntmps9
  go_upto_region 2 with (fail)
  rw [← HW.out]
  go_upto_region 3 with (go_at_call 23; refine (each_t S p4).mono ?_; rintro e w3 ⟨v, rs, rfl, hB, hown, htk, hfr⟩; rw [HT.out]; rw [HT.out] at htk; dsimp only at htk ⊢)
  have p5 := Blk.new w3 25 #[.int .i64 (t2 : Nat), .int .i64 (t3 : Nat)]
  obtain ⟨W4, hW4, hb4⟩ : ∃ W4 : World, W4 = w3.alloc (.cells #[.int .i64 (t2 : Nat), .int .i64 (t3 : Nat)] 25) ∧ Below w3.heap.size w3 W4 := ⟨_, rfl, below_alloc1 _ _⟩
  rw [← hW4] at p5 ⊢
  obtain ⟨b5, hb5⟩ : ∃ b, b = w3.heap.size := ⟨_, rfl⟩
  rw [← hb5] at p5 ⊢
  have h35 : w.heap.size < b5 := by have := hfr.size; omega
  have hb3 := hfr.size
  replace p3 := (hfr.blk p3 (by omega)).below hb4
  replace hB := hB.below hb4
  obtain ⟨A0, c0, hv⟩ := hown.slice
  subst hv
  replace hown := (hown.below hb4).le (base' := w.heap.size) hbW.size
  replace htk := (htk.below hb4).le (base' := w.heap.size) hbW.size
  have hbw := Fr.below_of (((Fr.refl w (fun b => b = w.heap.size + 1)).below hbW).step (hfr.below hb4) (fun k hk => .inl hk)) (fun k hk => by omega)
  have hoff := hown.off p3 (by decide)
  clear hW4 hb5 hfr p4 hb4 HW hbW
  obtain ⟨⟨f30, f31⟩, c30, c31⟩ := p3.facts2
  obtain ⟨_, c50, c51⟩ := p5.facts2
  have cB := hB.cell 0
  simp only [List.getElem?_toArray, List.getElem?_cons_zero] at cB
  by_cases h0 : t2 = 0
  · have e := HA.out
    rw [if_pos h0] at e
    subst h0
    have HE := Lib.hid e
    clear e
    go_wp2_with fail
    go_region
    all_goals
      go_wp2_with fail
      refine bodyPost_ret (results_mis rfl _ _ _ _ _ _ rfl (p3.drew.set2 _ _)) rfl ?_
      have e := HE.out
      injection e with e1 e2
      injection e2 with e2 e3
      subst e1; subst e2; subst e3
      have hd : Below W4.heap.size W4 W4.drew := (Below.refl _ _).drew
      exact ⟨_, rs, rfl, ((hown.below hd).kept (gb_set (World.grownBy.refl _ _) 0 _) (.inr hoff)).kept (gb_set (World.grownBy.refl _ _) 1 _) (.inr hoff), (htk.below hd).mags (fun m k t h => (h.far p3.drew (by decide) 0 _).far (p3.drew.put 0 _) (by decide) 1 _), ((hbw.trans (hd.mono (hbw.size))).setCell (Nat.le_refl _) _).setCell (Nat.le_refl _) _⟩
  · have e := HA.out
    rw [if_neg h0] at e
    have hne : ((t2 : Int) != 0) = true := by simp; omega
    have HE := Lib.hid e
    clear e h0
    go_wp2_with fail
    go_region
    all_goals
      go_wp2_with fail
      refine bodyPost_ret (results_mis rfl _ _ _ _ _ _ rfl (p3.drew.set2 _ _)) rfl ?_
      have e := HE.out
      injection e with e1 e2
      injection e2 with e2 e3
      subst e1; subst e2; subst e3
      have hd : Below W4.heap.size W4 W4.drew := (Below.refl _ _).drew
      exact ⟨_, [], rfl, OutT.nil _ _, Toks.nil _ _ _, ((hbw.trans (hd.mono (hbw.size))).setCell (Nat.le_refl _) _).setCell (Nat.le_refl _) _⟩
end Go.Proofs.YtkioaogpmifgeaaDoor

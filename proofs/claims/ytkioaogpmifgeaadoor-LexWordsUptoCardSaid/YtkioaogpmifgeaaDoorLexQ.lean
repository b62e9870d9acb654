/-
  riddleref03.Tokens: contract.
-/
import Derived.Test.YtkioaogpmifgeaaDoorLexP
namespace Go.Proofs.YtkioaogpmifgeaaDoor
open Go.RowKit

set_option maxRecDepth 100000 in
set_option maxHeartbeats 4000000 in
theorem rtokens_r (w : World) (S : ByteArray) :
    Calls Tryd.prog 8 #[.string S] w fun e w' => ∃ v rs, e = .returned (.tuple #[v, .agg #[.int .i64 ((X.ans S.data.toList).2.1 : Nat), .int .i64 ((X.ans S.data.toList).2.2 : Nat)]]) ∧ OutR w' w.heap.size v rs ∧ Toks w' w.heap.size S.data.toList rs (X.ans S.data.toList).1 ∧ Below w.heap.size w w' := by
  obtain ⟨t1, t2, t3, ht⟩ : ∃ t1 t2 t3, X.tokens S.data.toList = (t1, t2, t3) := ⟨_, _, _, rfl⟩
  have ha : X.ans S.data.toList = if t2 = 0 then (t1, t2, t3) else ([], t2, t3) := by unfold X.ans; rw [ht]
  obtain ⟨a1, a2, a3, haa⟩ : ∃ a1 a2 a3, X.ans S.data.toList = (a1, a2, a3) := ⟨_, _, _, rfl⟩
  rw [haa] at ha ⊢
  dsimp only
  have HA := Lib.hid ha
  have HT := Lib.hid ht
  clear ha ht haa
  obtain ⟨W, hW, p3, hbW⟩ : ∃ W : World, W = w.alloc (.cells #[.int .i64 0, .int .i64 0] 25) ∧ Blk W w.heap.size 25 #[.int .i64 0, .int .i64 0] ∧ Below w.heap.size w W := ⟨_, rfl, Blk.new _ _ _, below_alloc1 _ _⟩
  have HW := Lib.hid hW
  clear hW
  go_enter Tryd.func8, Tryd.ntmps8
  go_upto_region 1 with (fail)
  rw [← HW.out]
  go_upto_region 2 with (go_at_call 14; refine (parts_r _ S).mono ?_; rintro e w3 ⟨v, rs, rfl, hown, htk, hb3⟩; rw [HT.out]; rw [HT.out] at htk; dsimp only at htk ⊢)
  have p5 := Blk.new w3 25 #[.int .i64 (t2 : Nat), .int .i64 (t3 : Nat)]
  obtain ⟨W4, hW4, hb4⟩ : ∃ W4 : World, W4 = w3.alloc (.cells #[.int .i64 (t2 : Nat), .int .i64 (t3 : Nat)] 25) ∧ Below w3.heap.size w3 W4 := ⟨_, rfl, below_alloc1 _ _⟩
  rw [← hW4] at p5 ⊢
  obtain ⟨b5, hb5⟩ : ∃ b, b = w3.heap.size := ⟨_, rfl⟩
  rw [← hb5] at p5 ⊢
  have h35 : w.heap.size < b5 := by have := hb3.size; have := p3.lt; omega
  have hb34 := below_on hb3 hb4
  replace p3 := p3.below hb34
  obtain ⟨A0, c0, hv⟩ := hown.slice
  subst hv
  replace hown := (hown.below hb4).le (base' := w.heap.size) hbW.size
  replace htk := (htk.below hb4).le (base' := w.heap.size) hbW.size
  have hbw := below_on hbW hb34
  have hoff := hown.off p3 (by decide)
  clear hW4 hb5 hb34 hb4 hb3 HW hbW
  obtain ⟨⟨f30, f31⟩, c30, c31⟩ := p3.facts2
  obtain ⟨_, c50, c51⟩ := p5.facts2
  have hd : Below W4.heap.size W4 W4.drew := (Below.refl _ _).drew
  by_cases h0 : t2 = 0
  · have e := HA.out
    rw [if_pos h0] at e
    subst h0
    have HE := Lib.hid e
    clear e
    go_wp2_with fail
    go_region
    all_goals
      go_wp2_with fail
      refine bodyPost_ret (results_mis rfl _ _ _ _ _ _ rfl (p3.drew.set2 _ _)) rfl ?_
      have e := HE.out
      injection e with e1 e2
      injection e2 with e2 e3
      subst e1; subst e2; subst e3
      exact ⟨_, rs, rfl, ((hown.below hd).kept (gb_set (World.grownBy.refl _ _) 0 _) (.inr hoff)).kept (gb_set (World.grownBy.refl _ _) 1 _) (.inr hoff), (htk.below hd).mags (fun m k t h => (h.far p3.drew (by decide) 0 _).far (p3.drew.put 0 _) (by decide) 1 _), ((hbw.trans (hd.mono (hbw.size))).setCell (Nat.le_refl _) _).setCell (Nat.le_refl _) _⟩
  · have e := HA.out
    rw [if_neg h0] at e
    have hne : ((t2 : Int) != 0) = true := by simp; omega
    have HE := Lib.hid e
    clear e h0
    go_wp2_with fail
    go_region
    all_goals
      go_wp2_with fail
      refine bodyPost_ret (results_mis rfl _ _ _ _ _ _ rfl (p3.drew.set2 _ _)) rfl ?_
      have e := HE.out
      injection e with e1 e2
      injection e2 with e2 e3
      subst e1; subst e2; subst e3
      exact ⟨_, [], rfl, OutR.nil _ _, Toks.nil _ _ _, ((hbw.trans (hd.mono (hbw.size))).setCell (Nat.le_refl _) _).setCell (Nat.le_refl _) _⟩
end Go.Proofs.YtkioaogpmifgeaaDoor

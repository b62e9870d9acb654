/-
  The walk of riddlelaw03.LexTokens: it answers true.
-/
import Derived.Test.YtkioaogpmifgeaaDoorLexT
namespace Go.Proofs.YtkioaogpmifgeaaDoor
open Go.RowKit

theorem X.lexF_len (l : List UInt8) : ∀ (f at_ : Nat), (X.lexF l f at_).1.length ≤ l.length - at_ := by
  intro f
  induction f with
  | zero => intro at_; simp [X.lexF]
  | succ f ih =>
    intro at_
    unfold X.lexF
    split
    · simp
    · rename_i h0
      split
      · have := ih (at_ + 1); omega
      · split
        · simp
        · rename_i h1
          have h2 := X.one_pos (l := l.drop at_) (by simpa using h1)
          have := ih (at_ + (X.one (l.drop at_)).2.2)
          simp only [List.length_cons]
          omega
theorem X.ans_len (l : List UInt8) : (X.ans l).1.length ≤ l.length := by
  unfold X.ans
  split
  · unfold X.tokens
    split
    · simp
    · have := X.lexF_len l (l.length + 1 - 0) 0; unfold X.lex; omega
  · simp
theorem OutT.fr {w w' : World} {base : Nat} {v : Value} {rs : List Tk} {x : Nat → Prop} (h : OutT w base v rs) (hf : Fr w w' x) (hx : ∀ k, base ≤ k → ¬ x k) : OutT w' base v rs := by
  rcases h with h | ⟨g, cap, cur, e, h1, h2, h3⟩
  · exact .inl h
  · exact .inr ⟨g, cap, cur, e, h1, (hf.block g (Array.getElem?_eq_some_iff.1 h2).1 (hx g h1)).trans h2, h3⟩
theorem MagOf.fr2 {base : Nat} {w w' : World} {m : Value} {k : Nat} {l : List UInt8} {x : Nat → Prop} (h : MagOf base w m k l) (hf : Fr w w' x) (hx : ∀ k, base ≤ k → ¬ x k) : MagOf base w' m k l := by
  unfold MagOf at h ⊢
  split
  · rename_i hk
    rw [if_pos hk] at h
    obtain ⟨g, n, c, e, ho⟩ := h
    obtain ⟨hb, hlt⟩ := ho.base_le
    exact ⟨g, n, c, e, ho.block (hf.block g hlt (hx g hb))⟩
  · rename_i hk
    rw [if_neg hk] at h
    exact h
theorem Fr.low {w w' : World} {x : Nat → Prop} {B : Nat} (h : Fr w w' x) (hB : B ≤ w.heap.size) (hx : ∀ k, x k → B ≤ k) : Below B w w' :=
  ⟨h.os, h.tape, h.output, h.size, fun k hk => h.block k (by omega) (fun e => by have := hx k e; omega)⟩
theorem mis_new (w : World) (c a : Nat) : ∃ W : World, W = w.alloc (.cells #[.int .i64 (c : Nat), .int .i64 (a : Nat)] 25) ∧ Blk W w.heap.size 25 #[.int .i64 (c : Nat), .int .i64 (a : Nat)] ∧ Below w.heap.size w W ∧ W.heap.size = w.heap.size + 1 :=
  ⟨_, rfl, Blk.new _ _ _, below_alloc1 _ _, by simp⟩
set_option maxRecDepth 100000 in
set_option maxHeartbeats 4000000 in
theorem walkLexTokens (w : World) (S : ByteArray) (hS : S.size ≤ 1048576) :
    Calls Tryd.prog 3 #[.string S] w fun e w' => e = .returned (.bool true) ∧ Below w.heap.size w w' := by
  obtain ⟨ps, code, at_, ha⟩ : ∃ ps code at_, X.ans S.data.toList = (ps, code, at_) := ⟨_, _, _, rfl⟩
  have hpl : ps.length ≤ 1048576 := by
    have := X.ans_len S.data.toList
    rw [ha, size_list] at this
    dsimp only at this
    omega
  have HPL := Lib.hid hpl
  clear hpl
  go_enter Tryd.func3, Tryd.ntmps3
  go_upto_region 2 with (go_at_call 8; refine (rtokens_r _ S).mono ?_; rintro e w1 ⟨vr, rsr, rfl, hor, htr, hb1⟩; rw [ha]; rw [ha] at htr; dsimp only at htr ⊢)
  obtain ⟨W1, hW1, p4, hm1, hz1⟩ := mis_new w1 code at_
  rw [← hW1]
  obtain ⟨b4, hb4⟩ : ∃ b, b = w1.heap.size := ⟨_, rfl⟩
  rw [← hb4] at p4 ⊢
  have hwr := rtok_arr hor htr
  have hlens := htr.lens
  clear hW1 hor htr hb4 hz1
  go_upto_region 3 with (go_at_call 9; refine (tokens_x _ S).mono ?_; rintro e w2 ⟨va, rsa, rfl, hoa, hta, hb2⟩; rw [ha]; rw [ha] at hta; dsimp only at hta ⊢)
  obtain ⟨W2, hW2, p6, hm2, hz2⟩ := mis_new w2 code at_
  rw [← hW2]
  obtain ⟨b6, hb6⟩ : ∃ b, b = w2.heap.size := ⟨_, rfl⟩
  rw [← hb6] at p6 ⊢
  clear hW2 hb6 hz2
  go_upto_region 4 with (go_at_call 9; refine (tokens_x _ S).mono ?_; rintro e w3 ⟨vb, rsb, rfl, hob, htb, hb3⟩; rw [ha]; rw [ha] at htb; dsimp only at htb ⊢)
  obtain ⟨W3, hW3, p8, hm3, hz3⟩ := mis_new w3 code at_
  rw [← hW3]
  obtain ⟨b8, hb8⟩ : ∃ b, b = w3.heap.size := ⟨_, rfl⟩
  rw [← hb8] at p8 ⊢
  clear hW3 hb8 hz3
  have h23 := below_on hb3 hm3
  have h12 := below_on hb2 hm2
  have hw2 := below_on hm2 h23
  have hw1 := below_on hm1 (below_on h12 h23)
  replace p4 := p4.below (below_on h12 h23)
  replace p6 := p6.below h23
  obtain ⟨_, c40, c41⟩ := p4.facts2
  obtain ⟨_, c60, c61⟩ := p6.facts2
  obtain ⟨_, c80, c81⟩ := p8.facts2
  have hln : (X.tks S.data.toList ps).length ≤ 1048576 := by rw [X.tks_len]; exact HPL.out
  have HLN := Lib.hid hln
  have HLS := Lib.hid hlens
  have t0 : ((code : Int) == code) = true := by simp
  have t1 : ((at_ : Int) == at_) = true := by simp
  clear hln hlens
  go_upto_region 6 with (go_at_call 10; refine (are_l ((tok_arr hoa hta).below hw2) (hwr.below hw1) HLN.out HLS.out).mono ?_; rintro e w4 ⟨rfl, hb4'⟩)
  have hlim : ∀ k, W1.heap.size ≤ k ∧ k < w2.heap.size → W1.heap.size ≤ k := fun k h => h.1
  have h24 := below_on hw2 hb4'
  go_upto_region 7 with (go_at_call 11; refine (spoil_l hoa hta h24).mono ?_; rintro e w5 ⟨rfl, hf5⟩)
  have hs1 := hb2.size
  have hs2 := hm2.size
  have hs4 : W1.heap.size ≤ w4.heap.size := by have := h24.size; omega
  have hob5 := (((hob.below hm3).below hb4').fr hf5 (fun k hk h => by have := h.2; omega))
  have htb5 := (((htb.below hm3).below hb4').mags (fun m k t h => h.fr2 hf5 (fun k hk h => by have := h.2; omega)))
  have hs0 := hm1.size
  have hl5 := hf5.low (B := w1.heap.size) (by omega) (fun k h => by have := h.1; omega)
  have hw15 := (below_on hw1 hb4').trans hl5
  go_upto_region 9 with (go_at_call 10; refine (are_l (tok_arr hob5 htb5) (hwr.below hw15) HLN.out HLS.out).mono ?_; rintro e w6 ⟨rfl, hb6'⟩)
  have hw16 := below_on hw15 hb6'
  go_upto_region 10 with (go_at_call 9; refine (tokens_x _ S).mono ?_; rintro e w7 ⟨vc, rsc, rfl, hoc, htc, hb7⟩; rw [ha]; rw [ha] at htc; dsimp only at htc ⊢)
  obtain ⟨W7, hW7, _, hm7, _⟩ := mis_new w7 code at_
  rw [← hW7]
  clear hW7
  have hw17 := below_on hw16 (below_on hb7 hm7)
  have hbw := below_on hb1 hw17
  go_wp2_with (first
    | (go_at_call 10; refine (are_l ((tok_arr hoc htc).below hm7) (hwr.below hw17) HLN.out HLS.out).mono ?_; rintro e w8 ⟨rfl, hb8'⟩; replace hbw := below_on hbw hb8')
    | (go_at_call 12; refine (known_l _).mono ?_; rintro e w9 ⟨rfl, hb9⟩; replace hbw := below_on hbw hb9))
  go_ret
  exact ⟨rfl, hbw⟩
end Go.Proofs.YtkioaogpmifgeaaDoor

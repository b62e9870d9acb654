/-
  The walk of riddlelaw03.LexNames: it answers true.
-/
import Derived.Test.YtkioaogpmifgeaaDoorLexG
namespace Go.Proofs.YtkioaogpmifgeaaDoor
open Go.RowKit

theorem X.lexF_ge (l : List UInt8) : ∀ (f at_ : Nat), ∀ t ∈ (X.lexF l f at_).1, at_ ≤ t.2.1 := by
  intro f
  induction f with
  | zero => intro at_ t ht; simp [X.lexF] at ht
  | succ f ih =>
    intro at_ t ht
    unfold X.lexF at ht
    split at ht
    · simp at ht
    · split at ht
      · have := ih _ t ht; omega
      · split at ht
        · simp at ht
        · rcases List.mem_cons.1 ht with rfl | ht
          · exact Nat.le_refl _
          · have := ih _ t ht; omega
theorem X.lex_ge {l : List UInt8} {at_ : Nat} {t : Nat × Nat × Nat} (h : t ∈ (X.lex l at_).1) : at_ ≤ t.2.1 := X.lexF_ge l _ _ t h
/-- One word, a name, and that is all of the text. -/
def X.alone (l : List UInt8) (a : List (Nat × Nat × Nat) × Nat × Nat) : Bool := a.2.1 == 0 && (a.1.length == 1 && ((a.1.getD 0 (0, 0, 0)).1 == 2 && ((l.drop (a.1.getD 0 (0, 0, 0)).2.1).take (a.1.getD 0 (0, 0, 0)).2.2 == l)))
theorem X.letter_not {c : UInt8} (h : X.letter c = true) : X.blank c = false ∧ X.digit c = false := by
  have h1 : ∀ c : UInt8, X.letter c = true → X.blank c = false ∧ X.digit c = false := by
    intro c h
    refine ⟨?_, ?_⟩
    · unfold X.blank
      rcases X.letter_cases c with ⟨_, h1, h2⟩ | ⟨_, h1, h2⟩ | ⟨h0, _⟩ | ⟨h0, _⟩ | ⟨h0, _⟩
      · simp; refine ⟨⟨⟨?_, ?_⟩, ?_⟩, ?_⟩ <;> (intro e; subst e; revert h1; decide)
      · simp; refine ⟨⟨⟨?_, ?_⟩, ?_⟩, ?_⟩ <;> (intro e; subst e; revert h1; decide)
      all_goals (rw [h] at h0; cases h0)
    · rcases X.letter_cases c with ⟨_, h1, h2⟩ | ⟨_, h1, h2⟩ | ⟨h0, _⟩ | ⟨h0, _⟩ | ⟨h0, _⟩
      · unfold X.digit; simp; omega
      · unfold X.digit; simp; omega
      all_goals (rw [h] at h0; cases h0)
  exact h1 c h
theorem X.name_parts {l : List UInt8} (h : X.name l = true) : l ≠ [] ∧ X.letter (l.headD 0) = true ∧ X.rowLen l = l.length ∧ l.length ≤ 24 ∧ X.word l = false := by
  unfold X.name at h
  simp only [Bool.and_eq_true, Bool.not_eq_true', List.isEmpty_eq_false_iff, beq_iff_eq, decide_eq_true_eq] at h
  exact ⟨h.1, h.2.1, h.2.2.1, h.2.2.2.1, h.2.2.2.2⟩
theorem X.one_name {l : List UInt8} (h : X.name l = true) : X.one l = (0, 2, l.length) := by
  obtain ⟨h1, h2, h3, h4, h5⟩ := X.name_parts h
  have hl : 0 < l.length := List.length_pos_iff.2 h1
  unfold X.one
  rw [if_pos (by omega), h3, List.take_length]
  have : X.rowed l = (0, 2) := by unfold X.rowed; rw [(X.letter_not h2).2, h5, h]; rfl
  rw [this]
theorem X.name_alone (l : List UInt8) : X.alone l (X.ans l) = X.name l := by
  cases hn : X.name l
  · -- no name: were it alone it would be one
    cases ha : X.alone l (X.ans l)
    · rfl
    · exfalso
      unfold X.alone at ha
      simp only [Bool.and_eq_true, beq_iff_eq] at ha
      obtain ⟨h0, h1, h2, h3⟩ := ha
      obtain ⟨t, ht⟩ := List.length_eq_one_iff.1 h1
      rw [ht] at h2 h3
      simp only [List.getD_cons_zero] at h2 h3
      have htok : X.ans l = X.tokens l := by
        unfold X.ans at h0 ⊢
        split
        · rfl
        · rename_i hne
          rw [if_neg hne] at h0
          exact absurd h0 hne
      have hlex : X.tokens l = X.lex l 0 := by
        unfold X.tokens
        split
        · rename_i hlt
          rw [htok] at ht
          unfold X.tokens at ht
          rw [if_pos hlt] at ht
          cases ht
        · rfl
      rw [htok, hlex] at ht
      have hl : 0 < l.length := by
        rcases Nat.eq_zero_or_pos l.length with h | h
        · rw [X.lex_end (by omega)] at ht; cases ht
        · exact h
      have hp : t.2.1 = 0 := by
        have := congrArg List.length h3
        rw [List.length_take, List.length_drop] at this
        omega
      rw [hp, List.drop_zero] at h3
      cases hb : X.blank (l.getD 0 0)
      · by_cases he : (X.one (l.drop 0)).1 = 0
        · rw [X.lex_tok hl hb he, List.drop_zero] at ht
          injection ht with ht1 ht2
          rw [List.drop_zero] at he
          have e2 : (X.one l).2.1 = 2 := by rw [← ht1] at h2; exact h2
          have e3 : (X.one l).2.2 = t.2.2 := by rw [← ht1]
          unfold X.one at he e2 e3
          by_cases hr : 0 < X.rowLen l
          · rw [if_pos hr] at he e2 e3
            dsimp only at he e2 e3
            have hlen : X.rowLen l = l.length := by
              have h4 := congrArg List.length h3
              rw [List.length_take] at h4
              have h5 := X.rowLen_le l
              omega
            rw [hlen, List.take_length] at e2
            unfold X.rowed at e2
            rw [hn] at e2
            split at e2
            · split at e2 <;> cases e2
            · split at e2
              · cases e2
              · simp at e2
          · rw [if_neg hr] at e2
            split at e2 <;> cases e2
        · rw [X.lex_err hl hb he] at ht; cases ht
      · rw [X.lex_blank hl hb] at ht
        have := X.lex_ge (l := l) (at_ := 0 + 1) (t := t) (by rw [ht]; simp)
        omega
  · -- a name: it is one word
    obtain ⟨h1, h2, h3, h4, h5⟩ := X.name_parts hn
    have hl : 0 < l.length := List.length_pos_iff.2 h1
    have hhd : l.getD 0 0 = l.headD 0 := by cases l with | nil => exact absurd rfl h1 | cons c l => rfl
    have hlex : X.lex l 0 = ([(2, 0, l.length)], 0, 0) := by
      rw [X.lex_tok hl (by rw [hhd]; exact (X.letter_not h2).1) (by rw [List.drop_zero, X.one_name hn]), List.drop_zero, X.one_name hn]
      dsimp only
      rw [X.lex_end (by omega)]
    have htk : X.tokens l = ([(2, 0, l.length)], 0, 0) := by unfold X.tokens; rw [if_neg (by omega), hlex]
    have ht : X.ans l = ([(2, 0, l.length)], 0, 0) := by unfold X.ans; rw [htk]; rfl
    rw [ht]
    simp [X.alone]
set_option maxRecDepth 100000 in
set_option maxHeartbeats 4000000 in
theorem walkLexNames (w : World) (S : ByteArray) (hS : S.size ≤ 1048576) :
    Calls Tryd.prog 5 #[.string S] w fun e w' => e = .returned (.bool true) ∧ Below w.heap.size w w' := by
  obtain ⟨β, hβ⟩ : ∃ β, X.name S.data.toList = β := ⟨_, rfl⟩
  have hal := X.name_alone S.data.toList
  rw [hβ] at hal
  obtain ⟨ps, code, at_, ha⟩ : ∃ ps code at_, X.ans S.data.toList = (ps, code, at_) := ⟨_, _, _, rfl⟩
  rw [ha] at hal
  unfold X.alone at hal
  dsimp only at hal
  have HAL := Lib.hid hal
  clear hal
  go_enter Tryd.func5, Tryd.ntmps5
  go_upto_region 3 with (first
    | (go_at_call 18; refine (isname_x _ _ (by omega)).mono ?_; rintro e w1 ⟨rfl, rfl⟩; rw [hβ])
    | (go_at_call 9; refine (tokens_x _ S).mono ?_; rintro e w1 ⟨v, rs, rfl, hown, htk, hb1⟩; rw [ha]; rw [ha] at htk; dsimp only at htk ⊢))
  obtain ⟨A, c, rfl⟩ := hown.slice
  have hn := htk.1
  rw [hn]
  have p5 := Blk.new w1 25 #[.int .i64 (code : Nat), .int .i64 (at_ : Nat)]
  obtain ⟨W2, hW2, hb2⟩ : ∃ W2 : World, W2 = w1.alloc (.cells #[.int .i64 (code : Nat), .int .i64 (at_ : Nat)] 25) ∧ Below w1.heap.size w1 W2 := ⟨_, rfl, below_alloc1 _ _⟩
  rw [← hW2] at p5 ⊢
  obtain ⟨b5, hb5⟩ : ∃ b, b = w1.heap.size := ⟨_, rfl⟩
  rw [← hb5] at p5 ⊢
  obtain ⟨_, c50, c51⟩ := p5.facts2
  have hbw := below_on hb1 hb2
  have htoks := tok_cells (hown.below hb2) (htk.below hb2)
  have HTK := Lib.hid htoks
  clear hW2 hb5 hb1 hb2 hown htk htoks p5 ha
  by_cases h0 : code = 0
  · subst h0
    by_cases h1 : ps.length = 1
    · obtain ⟨g, cap, hv, hc⟩ := HTK.out (by omega)
      obtain ⟨A0, n0, c0, k0, k1, _⟩ := hc 0 (by omega)
      obtain ⟨⟨k, p, m⟩, hp⟩ : ∃ t, ps.getD 0 (0, 0, 0) = t := ⟨_, rfl⟩
      have e := HAL.out
      rw [hp] at k0 k1 e
      rw [h1] at e hv ⊢
      dsimp only at k0 k1 e
      rw [hn, h1] at hv
      injection hv with hv1 _ hv2
      subst hv1; subst hv2
      have q0 : W2.cell? ⟨g, 0, none⟩ = some (.int .i64 (k : Nat)) := k0
      obtain ⟨T, hT⟩ : ∃ T : ByteArray, T = ⟨((S.data.toList.drop p).take m).toArray⟩ := ⟨_, rfl⟩
      rw [← hT] at k1
      have q1 : W2.cell? ⟨g, 1, none⟩ = some (.string T) := k1
      have hTl : T.data.toList = (S.data.toList.drop p).take m := by rw [hT]
      rw [← hTl] at e
      clear k0 k1 hc hT hTl hp HTK HAL
      by_cases h2 : k = 2
      · subst h2
        by_cases h3 : T.data.toList = S.data.toList
        · have h4 : T = S := by rw [bytes_ext h3]
          subst h4
          have e2 : β = true := by rw [← e]; simp
          subst e2
          clear e
          go_wp2_with (first
            | (go_at_call 19; refine (isname_r _ _ (by omega)).mono ?_; rintro e w3 ⟨rfl, rfl⟩; rw [hβ])
            | (go_at_call 12; refine (known_l _).mono ?_; rintro e w3 ⟨rfl, hb3⟩; replace hbw := below_on hbw hb3))
          go_ret
          exact ⟨rfl, hbw⟩
        · have e2 : β = false := by rw [← e]; simpa using h3
          subst e2
          have hbq : (T.toList == S.toList) = false := by rw [ByteArray.toList_eq, ByteArray.toList_eq]; simpa using h3
          clear e h3
          go_wp2_with (first
            | (go_at_call 19; refine (isname_r _ _ (by omega)).mono ?_; rintro e w3 ⟨rfl, rfl⟩; rw [hβ])
            | (go_at_call 12; refine (known_l _).mono ?_; rintro e w3 ⟨rfl, hb3⟩; replace hbw := below_on hbw hb3))
          go_ret
          exact ⟨rfl, hbw⟩
      · have d2 : ((k : Int) == 2) = false := by simp; omega
        have e2 : β = false := by rw [← e]; simp [h2]
        subst e2
        clear e h2
        go_wp2_with (first
          | (go_at_call 19; refine (isname_r _ _ (by omega)).mono ?_; rintro e w3 ⟨rfl, rfl⟩; rw [hβ])
          | (go_at_call 12; refine (known_l _).mono ?_; rintro e w3 ⟨rfl, hb3⟩; replace hbw := below_on hbw hb3))
        go_ret
        exact ⟨rfl, hbw⟩
    · have d1 : ((ps.length : Int) == 1) = false := by simp; omega
      have e2 : β = false := by rw [← HAL.out]; simp [h1]
      subst e2
      clear h1
      go_wp2_with (first
        | (go_at_call 19; refine (isname_r _ _ (by omega)).mono ?_; rintro e w3 ⟨rfl, rfl⟩; rw [hβ])
        | (go_at_call 12; refine (known_l _).mono ?_; rintro e w3 ⟨rfl, hb3⟩; replace hbw := below_on hbw hb3))
      go_ret
      exact ⟨rfl, hbw⟩
  · have d0 : ((code : Int) == 0) = false := by simp; omega
    have e2 : β = false := by rw [← HAL.out]; simp [h0]
    subst e2
    clear h0
    go_wp2_with (first
      | (go_at_call 19; refine (isname_r _ _ (by omega)).mono ?_; rintro e w3 ⟨rfl, rfl⟩; rw [hβ])
      | (go_at_call 12; refine (known_l _).mono ?_; rintro e w3 ⟨rfl, hb3⟩; replace hbw := below_on hbw hb3))
    go_ret
    exact ⟨rfl, hbw⟩
end Go.Proofs.YtkioaogpmifgeaaDoor

/-
  The plain law of LexWhole: the words of what stands ahead of an error's place; a text without an error is its words and blanks.
-/
import Derived.Test.YtkioaogpmifgeaaDoorLexGlue
namespace Go.Proofs.YtkioaogpmifgeaaDoor
namespace X

theorem lex_ind {P : Nat → Prop} (l : List UInt8) (h : ∀ a, (∀ b, a < b → b ≤ l.length + 1 → P b) → P a) : ∀ a, P a := by
  have : ∀ k a, l.length + 2 - a = k → P a := by
    intro k
    induction k using Nat.strongRecOn with
    | _ k ih =>
      intro a ha
      exact h a (fun b hb hb2 => ih (l.length + 2 - b) (by omega) b rfl)
  exact fun a => this _ a rfl
theorem rowLen_take {m : List UInt8} {k : Nat} (h : rowLen m ≤ k) : rowLen (m.take k) = rowLen m := by
  have hle := rowLen_le m
  refine rowLen_eq (by rw [List.length_take]; omega) (fun j hj => ?_) ?_
  · rw [show (m.take k).getD j 0 = m.getD j 0 by simp only [List.getD_eq_getElem?_getD]; rw [List.getElem?_take_of_lt (by omega)]]
    exact rowLen_all hj
  · rcases Nat.lt_or_ge (rowLen m) k with hlt | hge
    · rcases Nat.lt_or_ge (rowLen m) m.length with h1 | h1
      · right
        rw [show (m.take k).getD (rowLen m) 0 = m.getD (rowLen m) 0 by simp only [List.getD_eq_getElem?_getD]; rw [List.getElem?_take_of_lt hlt]]
        cases hc : rowc (m.getD (rowLen m) 0)
        · rfl
        · exfalso
          have : rowLen m = rowLen m + 1 := by
            have h2 : rowLen m + 1 ≤ rowLen m := by
              unfold rowLen at hc h1 ⊢
              clear hle h hlt
              induction m with
              | nil => simp at h1
              | cons c m ih =>
                by_cases hcc : rowc c = true
                · simp only [List.takeWhile, hcc, List.length_cons] at hc h1 ⊢
                  have := ih (by omega) (by simpa [List.getD] using hc)
                  omega
                · simp [List.takeWhile, hcc, List.getD] at hc
            omega
          omega
      · left; rw [List.length_take]; omega
    · left; rw [List.length_take]; omega
/-- A prefix that holds the whole word has the same word. -/
theorem one_take {m : List UInt8} {k n q : Nat} (h : one m = (0, k, n)) (hq : n ≤ q) : one (m.take q) = (0, k, n) := by
  have hp := one_pos (l := m) (by rw [h])
  rw [h] at hp
  obtain ⟨hp1, _, hp2⟩ := hp
  dsimp only at hp1 hp2
  unfold one at h ⊢
  by_cases hr : 0 < rowLen m
  · rw [if_pos hr] at h
    injection h with h1 h2
    injection h2 with h2 h3
    rw [rowLen_take (by omega), if_pos hr, List.take_take, Nat.min_eq_left (by omega), h1, h2, h3]
  · rw [if_neg hr] at h
    have hr0 : rowLen (m.take q) = 0 := by rw [rowLen_take (by omega)]; omega
    by_cases hs0 : sgnLen m = 0
    · rw [if_pos hs0] at h; cases h
    · rw [if_neg hs0] at h
      injection h with _ h2
      injection h2 with h2 h3
      rw [if_neg (by omega)]
      have hs : sgnLen (m.take q) = sgnLen m := by
        cases m with
        | nil => simp
        | cons c m' =>
          obtain ⟨q', rfl⟩ : ∃ q', q = q' + 1 := ⟨q - 1, by omega⟩
          unfold sgnLen at h3 ⊢
          by_cases hx : 1 < (c :: m').length ∧ (c :: m').getD 1 0 = 61 ∧ sgn2 ((c :: m').headD 0) = true
          · rw [if_pos hx] at h3 ⊢
            rw [if_pos]
            refine ⟨by rw [List.length_take]; omega, ?_, hx.2.2⟩
            rw [show ((c :: m').take (q' + 1)).getD 1 0 = (c :: m').getD 1 0 by simp only [List.getD_eq_getElem?_getD]; rw [List.getElem?_take_of_lt (by omega)]]
            exact hx.2.1
          · rw [if_neg hx]
            rw [if_neg]
            · rfl
            · rintro ⟨a, b, c'⟩
              refine hx ⟨by rw [List.length_take] at a; omega, ?_, c'⟩
              rw [← b]
              simp only [List.getD_eq_getElem?_getD]
              rw [List.getElem?_take_of_lt (by rw [List.length_take] at a; omega)]
      rw [hs, if_neg hs0, h2, h3]
/-- An error lies not ahead of where one begins, and in the text. -/
theorem lex_place (l : List UInt8) : ∀ a ps c e, lex l a = (ps, c, e) → c ≠ 0 → a ≤ e ∧ e < l.length := by
  refine lex_ind (P := fun a => ∀ ps c e, lex l a = (ps, c, e) → c ≠ 0 → a ≤ e ∧ e < l.length) l ?_
  intro a ih ps c e h hc
  rcases Nat.lt_or_ge a l.length with hlt | hge
  · cases hb : blank (l.getD a 0)
    · by_cases h0 : (one (l.drop a)).1 = 0
      · rw [lex_tok hlt hb h0] at h
        have hpos := one_pos h0
        rw [List.length_drop] at hpos
        injection h with h1 h2
        have := ih (a + (one (l.drop a)).2.2) (by omega) (by omega) _ c e (by rw [← h2]) hc
        omega
      · rw [lex_err hlt hb h0] at h
        injection h with h1 h2
        injection h2 with h2 h3
        omega
    · rw [lex_blank hlt hb] at h
      have := ih (a + 1) (by omega) (by omega) ps c e h hc
      omega
  · rw [lex_end hge] at h
    injection h with h1 h2
    injection h2 with h2 h3
    omega
theorem take_getD {l : List UInt8} {a e : Nat} (h : a < e) : (l.take e).getD a 0 = l.getD a 0 := by
  simp only [List.getD_eq_getElem?_getD]
  rw [List.getElem?_take_of_lt h]
/-- What stands ahead of an error's place has the same words and no error. -/
theorem lex_ahead (l : List UInt8) : ∀ a ps c e, lex l a = (ps, c, e) → c ≠ 0 → lex (l.take e) a = (ps, 0, 0) := by
  refine lex_ind (P := fun a => ∀ ps c e, lex l a = (ps, c, e) → c ≠ 0 → lex (l.take e) a = (ps, 0, 0)) l ?_
  intro a ih ps c e h hc
  have hpl := lex_place l a ps c e h hc
  have htl : (l.take e).length = e := by rw [List.length_take]; omega
  rcases Nat.lt_or_ge a l.length with hlt | hge
  · cases hb : blank (l.getD a 0)
    · by_cases h0 : (one (l.drop a)).1 = 0
      · have h' := h
        rw [lex_tok hlt hb h0] at h
        have hpos := one_pos h0
        rw [List.length_drop] at hpos
        injection h with h1 h2
        have hn := lex_place l (a + (one (l.drop a)).2.2) _ c e (by rw [← h2]) hc
        have ho : one ((l.take e).drop a) = (0, (one (l.drop a)).2.1, (one (l.drop a)).2.2) := by
          rw [List.drop_take]
          exact one_take (by rw [← h0]) (by omega)
        rw [lex_tok (by omega) (by rw [take_getD (by omega)]; exact hb) (by rw [ho]), ho]
        dsimp only
        rw [ih (a + (one (l.drop a)).2.2) (by omega) (by omega) _ c e (by rw [← h2]) hc]
        rw [h1]
      · rw [lex_err hlt hb h0] at h
        injection h with h1 h2
        injection h2 with h2 h3
        rw [lex_end (by omega), ← h1]
    · rw [lex_blank hlt hb] at h
      have hn := lex_place l (a + 1) _ c e h hc
      rw [lex_blank (by omega) (by rw [take_getD (by omega)]; exact hb)]
      exact ih (a + 1) (by omega) (by omega) ps c e h hc
  · rw [lex_end hge] at h
    injection h with h1 h2
    injection h2 with h2 h3
    omega
/-- A word's place in what is left. -/
theorem lex_cov (l : List UInt8) : ∀ a ps e, a ≤ l.length → lex l a = (ps, 0, e) → match ps with
    | [] => ∀ j, a ≤ j → j < l.length → blank (l.getD j 0) = true
    | p :: qs => a ≤ p.2.1 ∧ (∀ j, a ≤ j → j < p.2.1 → blank (l.getD j 0) = true) ∧ 0 < p.2.2 ∧ p.2.1 + p.2.2 ≤ l.length ∧ lex l (p.2.1 + p.2.2) = (qs, 0, e) := by
  refine lex_ind (P := fun a => ∀ ps e, a ≤ l.length → lex l a = (ps, 0, e) → match ps with
    | [] => ∀ j, a ≤ j → j < l.length → blank (l.getD j 0) = true
    | p :: qs => a ≤ p.2.1 ∧ (∀ j, a ≤ j → j < p.2.1 → blank (l.getD j 0) = true) ∧ 0 < p.2.2 ∧ p.2.1 + p.2.2 ≤ l.length ∧ lex l (p.2.1 + p.2.2) = (qs, 0, e)) l ?_
  intro a ih ps e hal h
  rcases Nat.lt_or_ge a l.length with hlt | hge
  · cases hb : blank (l.getD a 0)
    · by_cases h0 : (one (l.drop a)).1 = 0
      · rw [lex_tok hlt hb h0] at h
        have hpos := one_pos h0
        rw [List.length_drop] at hpos
        injection h with h1 h2
        subst h1
        dsimp only
        refine ⟨Nat.le_refl _, fun j h1 h2 => by omega, hpos.1, by omega, ?_⟩
        rw [← h2]
      · rw [lex_err hlt hb h0] at h
        injection h with h1 h2
        injection h2 with h2 h3
        exact absurd h2 h0
    · rw [lex_blank hlt hb] at h
      have hi := ih (a + 1) (by omega) (by omega) ps e (by omega) h
      cases ps with
      | nil =>
        dsimp only at hi ⊢
        intro j h1 h2
        rcases Nat.lt_or_ge a j with h3 | h3
        · exact hi j (by omega) h2
        · obtain rfl : j = a := by omega
          exact hb
      | cons p qs =>
        dsimp only at hi ⊢
        refine ⟨by omega, fun j h1 h2 => ?_, hi.2.2⟩
        rcases Nat.lt_or_ge a j with h3 | h3
        · exact hi.2.1 j (by omega) h2
        · obtain rfl : j = a := by omega
          exact hb
  · rw [lex_end hge] at h
    injection h with h1 h2
    subst h1
    dsimp only
    intro j h1 h2
    omega
/-- The words' ends lie not behind an error's place. -/
theorem lex_ends (l : List UInt8) : ∀ a ps c e, lex l a = (ps, c, e) → c ≠ 0 → ∀ p ∈ ps, p.2.1 + p.2.2 ≤ e := by
  refine lex_ind (P := fun a => ∀ ps c e, lex l a = (ps, c, e) → c ≠ 0 → ∀ p ∈ ps, p.2.1 + p.2.2 ≤ e) l ?_
  intro a ih ps c e h hc p hp
  rcases Nat.lt_or_ge a l.length with hlt | hge
  · cases hb : blank (l.getD a 0)
    · by_cases h0 : (one (l.drop a)).1 = 0
      · rw [lex_tok hlt hb h0] at h
        have hpos := one_pos h0
        rw [List.length_drop] at hpos
        injection h with h1 h2
        have hn := lex_place l (a + (one (l.drop a)).2.2) _ c e (by rw [← h2]) hc
        subst h1
        rcases List.mem_cons.1 hp with rfl | hp
        · exact hn.1
        · exact ih (a + (one (l.drop a)).2.2) (by omega) (by omega) _ c e (by rw [← h2]) hc p hp
      · rw [lex_err hlt hb h0] at h
        injection h with h1 h2
        subst h1
        simp at hp
    · rw [lex_blank hlt hb] at h
      exact ih (a + 1) (by omega) (by omega) ps c e h hc p hp
  · rw [lex_end hge] at h
    injection h with h1 h2
    subst h1
    simp at hp
/-- All of LexWhole's first half. -/
theorem ahead {l : List UInt8} {ps : List (Nat × Nat × Nat)} {c e : Nat} (h : ans l = (ps, c, e)) (hc : c ≠ 0) :
    ps = [] ∧ e ≤ l.length ∧ ∃ e2, ans (l.take e) = ((tokens l).1, 0, e2) ∧ ∀ i, i < (tokens l).1.length → text (l.take e) ((tokens l).1.getD i (0, 0, 0)) = text l ((tokens l).1.getD i (0, 0, 0)) := by
  unfold ans at h
  split at h
  · rename_i h0
    rw [h] at h0
    exact absurd h0 hc
  · injection h with h1 h2
    obtain ⟨t1, t2, t3, ht⟩ : ∃ t1 t2 t3, tokens l = (t1, t2, t3) := ⟨_, _, _, rfl⟩
    rw [ht] at h2 ⊢
    injection h2 with h2 h3
    dsimp only at h2 h3 ⊢
    subst h2 h3
    unfold tokens at ht
    split at ht
    · injection ht with a1 a2
      injection a2 with a2 a3
      subst a1 a2 a3
      refine ⟨h1.symm, Nat.zero_le _, 0, rfl, fun i hi => absurd hi (by simp)⟩
    · rename_i hle
      have hpl := lex_place l 0 _ _ _ ht hc
      have ha := lex_ahead l 0 _ _ _ ht hc
      have hen := lex_ends l 0 _ _ _ ht hc
      refine ⟨h1.symm, by omega, 0, ?_, fun i hi => ?_⟩
      · have e4 : tokens (l.take t3) = (t1, 0, 0) := by unfold tokens; rw [if_neg (by rw [List.length_take]; omega)]; exact ha
        unfold ans
        rw [e4]
        rfl
      · have hm : t1.getD i (0, 0, 0) ∈ t1 := by
          simp only [List.getD_eq_getElem?_getD, List.getElem?_eq_getElem hi, Option.getD_some]
          exact List.getElem_mem hi
        have := hen _ hm
        unfold text
        rw [List.drop_take, List.take_take, Nat.min_eq_left (by omega)]
end X
end Go.Proofs.YtkioaogpmifgeaaDoor

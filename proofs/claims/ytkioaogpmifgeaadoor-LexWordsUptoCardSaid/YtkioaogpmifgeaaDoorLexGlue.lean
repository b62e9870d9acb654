/-
  Words with blanks between them: their words are the same.
-/
import Derived.Test.YtkioaogpmifgeaaDoorLexT
namespace Go.Proofs.YtkioaogpmifgeaaDoor
namespace X

def okGap (g : List UInt8) : Prop := g ≠ [] ∧ ∀ c ∈ g, blank c = true
/-- A word's text. -/
def text (l : List UInt8) (p : Nat × Nat × Nat) : List UInt8 := (l.drop p.2.1).take p.2.2
theorem blank_not_row {c : UInt8} (h : blank c = true) : rowc c = false := by
  unfold blank at h
  simp only [Bool.or_eq_true, beq_iff_eq, or_assoc] at h
  rcases h with rfl | rfl | rfl | rfl <;> decide
theorem blank_not_sign {c : UInt8} (h : blank c = true) : c ≠ 61 ∧ sgn1 c = false ∧ sgn2 c = false := by
  unfold blank at h
  simp only [Bool.or_eq_true, beq_iff_eq, or_assoc] at h
  rcases h with rfl | rfl | rfl | rfl <;> decide
theorem rowLen_all {l : List UInt8} {j : Nat} (h : j < rowLen l) : rowc (l.getD j 0) = true := by
  unfold rowLen at h
  induction l generalizing j with
  | nil => simp at h
  | cons c l ih =>
    by_cases hc : rowc c = true
    · cases j with
      | zero => simpa [List.getD] using hc
      | succ j =>
        have := ih (j := j) (by simpa [List.takeWhile, hc] using h)
        simpa [List.getD] using this
    · simp [List.takeWhile, hc] at h
theorem getD_take {l : List UInt8} {n j : Nat} (h : j < n) (r : List UInt8) (hn : n ≤ l.length) : ((l.take n) ++ r).getD j 0 = l.getD j 0 := by
  simp only [List.getD_eq_getElem?_getD]
  rw [List.getElem?_append_left (by rw [List.length_take]; omega), List.getElem?_take_of_lt h]
/-- A word keeps its kind where a blank stands behind it. -/
theorem one_cut {m : List UInt8} {k n : Nat} (h : one m = (0, k, n)) : 0 < n ∧ n ≤ m.length ∧ blank (m.getD 0 0) = false ∧ ∀ b r, blank b = true → one (m.take n ++ b :: r) = (0, k, n) := by
  have hp := one_pos (l := m) (by rw [h])
  rw [h] at hp
  obtain ⟨hp1, _, hp2⟩ := hp
  dsimp only at hp1 hp2
  refine ⟨hp1, hp2, ?_, fun b r hb => ?_⟩
  · cases hbl : blank (m.getD 0 0)
    · rfl
    · exfalso
      have hr0 : rowLen m = 0 := by
        rcases Nat.eq_zero_or_pos (rowLen m) with h0 | h0
        · exact h0
        · have := rowLen_all h0
          rw [blank_not_row hbl] at this; cases this
      have hh : m.headD 0 = m.getD 0 0 := by cases m <;> rfl
      have hs : sgnLen m = 0 := by
        unfold sgnLen
        rw [hh, (blank_not_sign hbl).2.1, (blank_not_sign hbl).2.2]
        simp
      unfold one at h
      rw [hr0, hs] at h
      simp at h
  · have htl : (m.take n).length = n := by rw [List.length_take]; omega
    unfold one at h
    by_cases hr : 0 < rowLen m
    · rw [if_pos hr] at h
      injection h with h1 h2
      injection h2 with h2 h3
      subst h3
      have hrl : rowLen (m.take (rowLen m) ++ b :: r) = rowLen m := by
        refine rowLen_eq (by rw [List.length_append, htl]; omega) (fun j hj => ?_) (.inr ?_)
        · rw [getD_take hj _ hp2]; exact rowLen_all hj
        · have e : (m.take (rowLen m) ++ b :: r).getD (rowLen m) 0 = b := by
            simp only [List.getD_eq_getElem?_getD]
            rw [List.getElem?_append_right (by rw [htl]; exact Nat.le_refl _), htl, Nat.sub_self]; rfl
          rw [e]; exact blank_not_row hb
      unfold one
      rw [hrl, if_pos hr, List.take_append_of_le_length (by rw [htl]; exact Nat.le_refl _), List.take_of_length_le (by rw [htl]; exact Nat.le_refl _), h1, h2]
    · have hr0 : rowLen m = 0 := by omega
      rw [if_neg hr] at h
      by_cases hs0 : sgnLen m = 0
      · rw [if_pos hs0] at h; cases h
      · rw [if_neg hs0] at h
        injection h with _ h2
        injection h2 with h2 h3
        cases m with
        | nil => exact absurd hp2 (by simp; omega)
        | cons c m' =>
          have hc : rowc c = false := by
            cases hcc : rowc c
            · rfl
            · have : 0 < rowLen (c :: m') := by unfold rowLen; simp [List.takeWhile, hcc]
              omega
          have hrl : rowLen ((c :: m').take n ++ b :: r) = 0 := by
            obtain ⟨n', rfl⟩ : ∃ n', n = n' + 1 := ⟨n - 1, by omega⟩
            simp [rowLen, hc]
          have hsl : sgnLen ((c :: m').take n ++ b :: r) = n := by
            unfold sgnLen at h3 hs0 ⊢
            by_cases hx : 1 < (c :: m').length ∧ (c :: m').getD 1 0 = 61 ∧ sgn2 ((c :: m').headD 0) = true
            · rw [if_pos hx] at h3
              subst h3
              rw [if_pos]
              refine ⟨by rw [List.length_append, htl]; simp; omega, ?_, ?_⟩
              · rw [getD_take (by omega) _ hp2]; exact hx.2.1
              · exact hx.2.2
            · rw [if_neg hx] at h3 hs0
              have hs1 : sgn1 c = true := by
                cases hss : sgn1 c
                · rw [show (c :: m').headD 0 = c from rfl, hss] at hs0; simp at hs0
                · rfl
              rw [show (c :: m').headD 0 = c from rfl, hs1] at h3
              simp only [if_true] at h3
              subst h3
              rw [if_neg]
              · rw [show ((c :: m').take 1 ++ b :: r).headD 0 = c from rfl, hs1]; rfl
              · intro hh
                have h1 := hh.2.1
                have e : ((c :: m').take 1 ++ b :: r).getD 1 0 = b := rfl
                rw [e] at h1
                exact (blank_not_sign hb).1 h1
          unfold one
          rw [hrl, if_neg (by decide), hsl, if_neg (by omega), ← h2]
theorem lexF_one (l : List UInt8) : ∀ (f at_ : Nat), ∀ t ∈ (lexF l f at_).1, one (l.drop t.2.1) = (0, t.1, t.2.2) := by
  intro f
  induction f with
  | zero => intro at_ t ht; simp [lexF] at ht
  | succ f ih =>
    intro at_ t ht
    unfold lexF at ht
    split at ht
    · simp at ht
    · split at ht
      · exact ih _ t ht
      · split at ht
        · simp at ht
        · rename_i h1
          rcases List.mem_cons.1 ht with rfl | ht
          · have h0 : (one (l.drop at_)).1 = 0 := by simpa using h1
            dsimp only
            rw [← h0]
          · exact ih _ t ht
theorem lex_gap {s pre g rest : List UInt8} (hs : s = pre ++ (g ++ rest)) (hg : ∀ c ∈ g, blank c = true) : lex s pre.length = lex s (pre.length + g.length) := by
  induction g generalizing pre with
  | nil => simp
  | cons c g ih =>
    have h1 : pre.length < s.length := by rw [hs]; simp
    have h2 : s.getD pre.length 0 = c := by rw [hs]; simp [List.getD]
    rw [lex_blank h1 (by rw [h2]; exact hg c (by simp))]
    have := ih (pre := pre ++ [c]) (by rw [hs]; simp) (fun c' h => hg c' (by simp [h]))
    rw [List.length_append] at this
    rw [show pre.length + 1 = pre.length + [c].length from rfl, this, List.length_cons]
    congr 1
    simp; omega
/-- Texts with a gap behind each. -/
def join (its : List (List UInt8 × List UInt8)) : List UInt8 := its.flatMap fun i => i.1 ++ i.2
theorem lex_join (l : List UInt8) : ∀ (ps : List (Nat × Nat × Nat)) (gs : List (List UInt8)) (s pre g : List UInt8), s = pre ++ (g ++ join ((ps.map (text l)).zip gs)) → okGap g → gs.length = ps.length → (∀ x ∈ gs, okGap x) → (∀ p ∈ ps, one (l.drop p.2.1) = (0, p.1, p.2.2)) →
    ∃ qs, lex s pre.length = (qs, 0, 0) ∧ qs.length = ps.length ∧ ∀ i, i < ps.length → (qs.getD i (0, 0, 0)).1 = (ps.getD i (0, 0, 0)).1 ∧ text s (qs.getD i (0, 0, 0)) = text l (ps.getD i (0, 0, 0)) := by
  intro ps
  induction ps with
  | nil =>
    intro gs s pre g hs hg hl _ _
    refine ⟨[], ?_, rfl, fun i hi => absurd hi (by simp)⟩
    rw [lex_gap hs hg.2]
    exact lex_end (by rw [hs]; simp [join])
  | cons p ps ih =>
    intro gs s pre g hs hg hl hgs hps
    cases gs with
    | nil => simp at hl
    | cons g' gs =>
      have h1 := hps p (by simp)
      obtain ⟨hn1, hn2, hbl, hcut⟩ := one_cut h1
      have hg' := hgs g' (by simp)
      obtain ⟨b, g'', rfl⟩ : ∃ b g'', g' = b :: g'' := by
        cases g' with
        | nil => exact absurd rfl hg'.1
        | cons b g'' => exact ⟨b, g'', rfl⟩
      have htl : (text l p).length = p.2.2 := by unfold text; rw [List.length_take]; omega
      have hj : join (((p :: ps).map (text l)).zip ((b :: g'') :: gs)) = text l p ++ ((b :: g'') ++ join ((ps.map (text l)).zip gs)) := by simp [join]
      rw [hj] at hs
      have hdrop : s.drop (pre.length + g.length) = text l p ++ b :: (g'' ++ join ((ps.map (text l)).zip gs)) := by
        rw [hs, show pre.length + g.length = (pre ++ g).length by simp, ← List.append_assoc, List.drop_left]; simp
      have hone : one (s.drop (pre.length + g.length)) = (0, p.1, p.2.2) := by rw [hdrop]; exact hcut b _ (hg'.2 b (by simp))
      have hat : pre.length + g.length < s.length := by rw [hs]; simp; omega
      have hb0 : blank (s.getD (pre.length + g.length) 0) = false := by
        have e1 : s.getD (pre.length + g.length) 0 = (s.drop (pre.length + g.length)).getD 0 0 := by simp [List.getD]
        rw [e1, hdrop]
        unfold text
        rw [getD_take hn1 _ hn2]; exact hbl
      obtain ⟨qs, hq1, hq2, hq3⟩ := ih gs s (pre ++ (g ++ text l p)) (b :: g'') (by rw [hs]; simp) hg' (by simpa using hl) (fun x hx => hgs x (by simp [hx])) (fun q hq => hps q (by simp [hq]))
      have hlen : (pre ++ (g ++ text l p)).length = pre.length + g.length + p.2.2 := by simp [htl]; omega
      rw [hlen] at hq1
      refine ⟨(p.1, pre.length + g.length, p.2.2) :: qs, ?_, by simp [hq2], fun i hi => ?_⟩
      · rw [lex_gap hs hg.2, lex_tok hat hb0 (by rw [hone]), hone]
        dsimp only
        rw [hq1]
      · cases i with
        | zero =>
          refine ⟨rfl, ?_⟩
          show text s (p.1, pre.length + g.length, p.2.2) = text l p
          have e2 : text s (p.1, pre.length + g.length, p.2.2) = (s.drop (pre.length + g.length)).take p.2.2 := rfl
          rw [e2, hdrop, List.take_append_of_le_length (by rw [htl]; exact Nat.le_refl _), List.take_of_length_le (by rw [htl]; exact Nat.le_refl _)]
        | succ i =>
          have := hq3 i (by simpa using hi)
          simpa [List.getD] using this
end X
end Go.Proofs.YtkioaogpmifgeaaDoor

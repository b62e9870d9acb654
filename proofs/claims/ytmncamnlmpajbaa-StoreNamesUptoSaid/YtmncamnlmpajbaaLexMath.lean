/-
  The words of a text, as plain lists of bytes.
-/
import Derived.Test.YtmncamnlmpajbaaDec
namespace Go.Proofs.Ytmncamnlmpajbaa
namespace X

def letter (c : UInt8) : Bool := decide (97 ≤ c.toNat ∧ c.toNat ≤ 122) || decide (65 ≤ c.toNat ∧ c.toNat ≤ 90)
def digit (c : UInt8) : Bool := decide (48 ≤ c.toNat ∧ c.toNat ≤ 57)
def rowc (c : UInt8) : Bool := letter c || digit c || decide (c.toNat = 95)
def blank (c : UInt8) : Bool := c == 32 || c == 9 || c == 10 || c == 13
def rowLen (l : List UInt8) : Nat := (l.takeWhile rowc).length
def words : List (List UInt8) := [[97, 110, 100], [111, 114], [110, 111, 116], [105, 109, 112, 108, 105, 101, 115], [105, 102, 102], [115, 111, 109, 101], [97, 108, 108], [116, 114, 117, 101], [102, 97, 108, 115, 101], [100, 105, 118, 105, 100, 101, 115]]
def word (l : List UInt8) : Bool := words.contains l
def name (l : List UInt8) : Bool := !l.isEmpty && (letter (l.headD 0) && (rowLen l == l.length && (decide (l.length ≤ 24) && !word l)))
instance (l : List UInt8) : Decidable (N.okTxt l) := by unfold N.okTxt N.isDig; infer_instance
/-- A row's error and kind. -/
def rowed (l : List UInt8) : Nat × Nat := if digit (l.headD 0) then (if N.okTxt l then (0, 1) else (12, 0)) else if word l then (0, 3) else if name l then (0, 2) else (30, 0)
def sgn2 (c : UInt8) : Bool := c == 60 || c == 62 || c == 33
def sgn1 (c : UInt8) : Bool := [60, 62, 61, 43, 45, 42, 46, 40, 41].contains c
def sgnLen (l : List UInt8) : Nat := if 1 < l.length ∧ l.getD 1 0 = 61 ∧ sgn2 (l.headD 0) = true then 2 else if sgn1 (l.headD 0) then 1 else 0
/-- The word that a text begins with: the error, the kind, how many bytes. -/
def one (l : List UInt8) : Nat × Nat × Nat :=
  if 0 < rowLen l then ((rowed (l.take (rowLen l))).1, (rowed (l.take (rowLen l))).2, rowLen l)
  else if sgnLen l = 0 then (30, 0, 0) else (0, 4, sgnLen l)
/-- The words from a place on (kind, place, bytes), the error and its place. -/
def lexF (l : List UInt8) : Nat → Nat → List (Nat × Nat × Nat) × Nat × Nat
  | 0, _ => ([], 0, 0)
  | f + 1, at_ => if l.length ≤ at_ then ([], 0, 0) else if blank (l.getD at_ 0) then lexF l f (at_ + 1)
      else if (one (l.drop at_)).1 ≠ 0 then ([], (one (l.drop at_)).1, at_)
      else (((one (l.drop at_)).2.1, at_, (one (l.drop at_)).2.2) :: (lexF l f (at_ + (one (l.drop at_)).2.2)).1, (lexF l f (at_ + (one (l.drop at_)).2.2)).2)
def lex (l : List UInt8) (at_ : Nat) : List (Nat × Nat × Nat) × Nat × Nat := lexF l (l.length + 1 - at_) at_

theorem rowLen_le (l : List UInt8) : rowLen l ≤ l.length := List.IsPrefix.length_le (List.takeWhile_prefix _)
theorem rowLen_eq {l : List UInt8} {k : Nat} (hk : k ≤ l.length) (h : ∀ j, j < k → rowc (l.getD j 0) = true) (he : k = l.length ∨ rowc (l.getD k 0) = false) : rowLen l = k := by
  unfold rowLen
  induction l generalizing k with
  | nil => have : k = 0 := by simpa using hk
           subst this; rfl
  | cons c l ih =>
    cases k with
    | zero =>
      rcases he with he | he
      · simp at he
      · have : rowc c = false := by simpa [List.getD] using he
        simp [List.takeWhile, this]
    | succ k =>
      have h0 : rowc c = true := by simpa [List.getD] using h 0 (by omega)
      have h1 := ih (k := k) (by simpa using hk) (fun j hj => by simpa [List.getD] using h (j + 1) (by omega)) (by
        rcases he with he | he
        · left; simpa using he
        · right; simpa [List.getD] using he)
      simp [List.takeWhile, h0, h1]
theorem one_pos {l : List UInt8} (h : (one l).1 = 0) : 0 < (one l).2.2 ∧ (l = [] → False) ∧ (one l).2.2 ≤ l.length := by
  unfold one at h ⊢
  by_cases h1 : 0 < rowLen l
  · rw [if_pos h1] at h ⊢
    have h2 := rowLen_le l
    exact ⟨h1, fun e => by subst e; simp [rowLen] at h1, h2⟩
  · rw [if_neg h1] at h ⊢
    by_cases h2 : sgnLen l = 0
    · rw [if_pos h2] at h; cases h
    · rw [if_neg h2]
      have hne : l ≠ [] := fun e => by subst e; exact h2 (by decide)
      refine ⟨by show 0 < sgnLen l; omega, hne, ?_⟩
      show sgnLen l ≤ l.length
      have hl : 0 < l.length := List.length_pos_iff.2 hne
      unfold sgnLen
      split
      · rename_i h3; omega
      · split <;> omega
theorem lexF_more (l : List UInt8) : ∀ (f f' at_ : Nat), l.length < f + at_ → l.length < f' + at_ → lexF l f at_ = lexF l f' at_ := by
  intro f
  induction f with
  | zero =>
    intro f' at_ h h'
    cases f' with
    | zero => rfl
    | succ f' => rw [show lexF l (f' + 1) at_ = ([], 0, 0) by unfold lexF; rw [if_pos (by omega)]]; rfl
  | succ f ih =>
    intro f' at_ h h'
    cases f' with
    | zero => rw [show lexF l (f + 1) at_ = ([], 0, 0) by unfold lexF; rw [if_pos (by omega)]]; rfl
    | succ f' =>
      unfold lexF
      by_cases h0 : l.length ≤ at_
      · rw [if_pos h0, if_pos h0]
      rw [if_neg h0, if_neg h0]
      by_cases h1 : blank (l.getD at_ 0) = true
      · rw [if_pos h1, if_pos h1]; exact ih _ _ (by omega) (by omega)
      rw [if_neg h1, if_neg h1]
      by_cases h2 : (one (l.drop at_)).1 ≠ 0
      · rw [if_pos h2, if_pos h2]
      rw [if_neg h2, if_neg h2]
      have h3 := one_pos (l := l.drop at_) (by simpa using h2)
      rw [ih f' (at_ + (one (l.drop at_)).2.2) (by omega) (by omega)]
theorem lex_end {l : List UInt8} {at_ : Nat} (h : l.length ≤ at_) : lex l at_ = ([], 0, 0) := by
  unfold lex
  cases hf : l.length + 1 - at_ with
  | zero => rfl
  | succ f => unfold lexF; rw [if_pos h]
theorem lex_step {l : List UInt8} {at_ : Nat} (h : at_ < l.length) : lex l at_ = if blank (l.getD at_ 0) then lex l (at_ + 1) else if (one (l.drop at_)).1 ≠ 0 then ([], (one (l.drop at_)).1, at_)
    else (((one (l.drop at_)).2.1, at_, (one (l.drop at_)).2.2) :: (lex l (at_ + (one (l.drop at_)).2.2)).1, (lex l (at_ + (one (l.drop at_)).2.2)).2) := by
  have e : lex l at_ = lexF l (l.length - at_ + 1) at_ := by unfold lex; exact lexF_more l _ _ _ (by omega) (by omega)
  rw [e]
  rw [show lexF l (l.length - at_ + 1) at_ = if l.length ≤ at_ then ([], 0, 0) else if blank (l.getD at_ 0) then lexF l (l.length - at_) (at_ + 1)
      else if (one (l.drop at_)).1 ≠ 0 then ([], (one (l.drop at_)).1, at_)
      else (((one (l.drop at_)).2.1, at_, (one (l.drop at_)).2.2) :: (lexF l (l.length - at_) (at_ + (one (l.drop at_)).2.2)).1, (lexF l (l.length - at_) (at_ + (one (l.drop at_)).2.2)).2) by rw [lexF]]
  rw [if_neg (by omega)]
  by_cases h1 : blank (l.getD at_ 0) = true
  · rw [if_pos h1, if_pos h1]; exact lexF_more l _ _ _ (by omega) (by omega)
  rw [if_neg h1, if_neg h1]
  by_cases h2 : (one (l.drop at_)).1 ≠ 0
  · rw [if_pos h2, if_pos h2]
  rw [if_neg h2, if_neg h2]
  have h3 := one_pos (l := l.drop at_) (by simpa using h2)
  rw [show lexF l (l.length - at_) (at_ + (one (l.drop at_)).2.2) = lex l (at_ + (one (l.drop at_)).2.2) from lexF_more l _ _ _ (by omega) (by omega)]
theorem lex_blank {l : List UInt8} {at_ : Nat} (h : at_ < l.length) (hb : blank (l.getD at_ 0) = true) : lex l at_ = lex l (at_ + 1) := by rw [lex_step h, if_pos hb]
theorem lex_err {l : List UInt8} {at_ : Nat} (h : at_ < l.length) (hb : blank (l.getD at_ 0) = false) (he : (one (l.drop at_)).1 ≠ 0) : lex l at_ = ([], (one (l.drop at_)).1, at_) := by
  rw [lex_step h, if_neg (by rw [hb]; decide), if_pos he]
theorem lex_tok {l : List UInt8} {at_ : Nat} (h : at_ < l.length) (hb : blank (l.getD at_ 0) = false) (he : (one (l.drop at_)).1 = 0) :
    lex l at_ = (((one (l.drop at_)).2.1, at_, (one (l.drop at_)).2.2) :: (lex l (at_ + (one (l.drop at_)).2.2)).1, (lex l (at_ + (one (l.drop at_)).2.2)).2) := by
  rw [lex_step h, if_neg (by rw [hb]; decide), if_neg (by rw [he]; decide)]
end X
end Go.Proofs.Ytmncamnlmpajbaa

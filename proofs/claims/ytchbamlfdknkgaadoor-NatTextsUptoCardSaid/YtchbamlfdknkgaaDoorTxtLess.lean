/-
  Texts of numbers: the longer one is of the greater number, of two of one length the later one (plain).
-/
import Derived.Test.YtchbamlfdknkgaaDoorVal
namespace Go.Proofs.YtchbamlfdknkgaaDoor
namespace N

theorem less_snoc (l m : List UInt8) (c d : UInt8) (h : l.length = m.length) : Op.bytesLess (l ++ [c]) (m ++ [d]) = (Op.bytesLess l m || (l == m && decide (c < d))) := by
  induction l generalizing m with
  | nil =>
    have : m = [] := List.eq_nil_of_length_eq_zero h.symm
    subst this
    simp [Op.bytesLess]
  | cons x l ih =>
    cases m with
    | nil => simp at h
    | cons y m =>
      have h2 : l.length = m.length := by simpa using h
      simp only [List.cons_append, Op.bytesLess, ih m h2]
      by_cases e : x = y
      · subst e; simp
      · have : (x == y) = false := by simpa using e
        simp [this]
theorem val_len_lt (l m : List UInt8) (h : l.length = m.length) (hl : ∀ c ∈ l, isDig c) (hm : ∀ c ∈ m, isDig c) :
    Op.bytesLess l m = decide (val l < val m) ∧ (l = m ↔ val l = val m) := by
  induction l using List.reverseRecOn' generalizing m with
  | nil =>
    have : m = [] := List.eq_nil_of_length_eq_zero h.symm
    subst this
    simp [Op.bytesLess]
  | snoc l c ih =>
    have hne : m ≠ [] := by intro e; subst e; simp at h
    obtain ⟨m', d, rfl⟩ : ∃ m' d, m = m' ++ [d] := ⟨m.dropLast, m.getLast hne, (List.dropLast_concat_getLast hne).symm⟩
    have h2 : l.length = m'.length := by simpa using h
    obtain ⟨i1, i2⟩ := ih m' h2 (fun x hx => hl x (by simp [hx])) (fun x hx => hm x (by simp [hx]))
    have hc := hl c (by simp)
    have hd := hm d (by simp)
    unfold isDig at hc hd
    have ecd : c < d ↔ c.toNat < d.toNat := UInt8.lt_iff_toNat_lt
    have ecd2 : c = d ↔ c.toNat = d.toNat := UInt8.toNat_inj.symm
    rw [less_snoc _ _ _ _ h2, i1, val_snoc, val_snoc]
    constructor
    · apply Bool.eq_iff_iff.2
      simp only [Bool.or_eq_true, Bool.and_eq_true, decide_eq_true_eq, beq_iff_eq, i2, ecd]
      omega
    · constructor
      · intro e
        have e1 := List.append_inj' e rfl
        have e3 := i2.1 e1.1
        have e4 : c = d := by simpa using e1.2
        rw [e3, e4]
      · intro e
        have e1 : val l = val m' := by omega
        have e2 : c = d := ecd2.2 (by omega)
        rw [i2.2 e1, e2]
theorem txt_len_le {a b : Nat} (h : a ≤ b) : (txt a).length ≤ (txt b).length := by
  induction b using Nat.strongRecOn generalizing a with
  | _ b ih =>
    by_cases h1 : a < 10
    · rw [txt_small h1]
      exact List.length_pos_iff.2 (txt_ne_nil b)
    · rw [txt_big (by omega), txt_big (show 10 ≤ b by omega)]
      have := ih (b / 10) (by omega) (a := a / 10) (by omega)
      simpa using this
theorem txt_less {a b : Nat} (h : (txt a).length = (txt b).length) : Op.bytesLess (txt a) (txt b) = decide (a < b) ∧ (txt a = txt b ↔ a = b) := by
  have := val_len_lt (txt a) (txt b) h (txt_digs a) (txt_digs b)
  rw [val_txt, val_txt] at this
  exact this
theorem txt_len_lt {a b : Nat} (h : (txt a).length < (txt b).length) : a < b := by
  rcases Nat.lt_or_ge a b with h1 | h1
  · exact h1
  · have := txt_len_le h1; omega
end N
end Go.Proofs.YtchbamlfdknkgaaDoor

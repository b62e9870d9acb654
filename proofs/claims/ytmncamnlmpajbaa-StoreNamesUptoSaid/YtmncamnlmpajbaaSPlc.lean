/-
  Where a name is, or would be, in a rising list of names and trees.
-/
import Derived.Test.YtmncamnlmpajbaaSOps
import Derived.Test.YtmncamnlmpajbaaSPlain
namespace Go.Proofs.Ytmncamnlmpajbaa

def plc (nm : ByteArray) : Kl → Nat
  | [] => 0
  | (a, _) :: r => if a.data.toList < nm.data.toList then plc nm r + 1 else 0
theorem plc_le (nm : ByteArray) : ∀ (L : Kl), plc nm L ≤ L.length
  | [] => Nat.le_refl _
  | (a, u) :: r => by
    have := plc_le nm r
    unfold plc
    split
    · simp; omega
    · omega
theorem plc_lt {nm : ByteArray} : ∀ {L : Kl} {i : Nat}, i < plc nm L → (L.getD i kd).1.data.toList < nm.data.toList
  | [], i, h => by simp [plc] at h
  | (a, u) :: r, i, h => by
    unfold plc at h
    split at h
    · rename_i hlt
      cases i with
      | zero => exact hlt
      | succ i => exact plc_lt (L := r) (by omega)
    · omega
theorem plc_at {nm : ByteArray} : ∀ {L : Kl}, plc nm L < L.length → ¬ (L.getD (plc nm L) kd).1.data.toList < nm.data.toList
  | [], h => by simp at h
  | (a, u) :: r, h => by
    unfold plc at h ⊢
    split
    · rename_i hlt
      rw [if_pos hlt] at h
      have := plc_at (nm := nm) (L := r) (by simpa using h)
      simpa [List.getD] using this
    · rename_i hlt
      simpa [List.getD] using hlt
theorem plc_get {nm : ByteArray} : ∀ {L : Kl}, plc nm L < L.length → (L.getD (plc nm L) kd).1 = nm → lget nm L = some (L.getD (plc nm L) kd).2
  | [], h, _ => by simp at h
  | (a, u) :: r, h, he => by
    unfold plc at h he ⊢
    split
    · rename_i hlt
      rw [if_pos hlt] at h he
      have hne := str_ne hlt
      unfold lget
      rw [if_neg hne]
      have := plc_get (nm := nm) (L := r) (by simpa using h) (by simpa [List.getD] using he)
      simpa [List.getD] using this
    · rename_i hlt
      rw [if_neg hlt] at he
      unfold lget
      rw [if_pos (by simpa [List.getD] using he)]
      rfl
theorem plc_none {nm : ByteArray} : ∀ {L : Kl}, Rising L → (plc nm L < L.length → (L.getD (plc nm L) kd).1 ≠ nm) → lget nm L = none
  | [], _, _ => rfl
  | (a, u) :: r, hr, h => by
    obtain ⟨h1, h2⟩ := List.pairwise_cons.1 hr
    unfold plc at h
    unfold lget
    by_cases hlt : a.data.toList < nm.data.toList
    · rw [if_pos hlt] at h
      rw [if_neg (str_ne hlt)]
      exact plc_none h2 (fun hl => by simpa [List.getD] using h (by simpa using hl))
    · rw [if_neg hlt] at h
      have hne : a ≠ nm := by simpa [List.getD] using h (by simp)
      rw [if_neg hne]
      have hgt : nm.data.toList < a.data.toList := by
        rcases str_tri a nm with h | h | h
        · exact absurd h hlt
        · exact absurd h hne
        · exact h
      cases hg : lget nm r with
      | none => rfl
      | some v => exact absurd rfl (str_ne (List.lt_trans hgt (h1 _ (lget_mem hg))))
/-- There: the place is below the length and the name is its name. -/
theorem plc_here {nm : ByteArray} {L : Kl} (hr : Rising L) : (lget nm L).isSome = (decide (plc nm L < L.length) && decide ((L.getD (plc nm L) kd).1 = nm)) := by
  by_cases h : plc nm L < L.length ∧ (L.getD (plc nm L) kd).1 = nm
  · rw [plc_get h.1 h.2, decide_eq_true h.1, decide_eq_true h.2]; rfl
  · have := plc_none hr (fun h1 h2 => h ⟨h1, h2⟩)
    rw [this]
    symm
    simp only [Option.isSome_none, Bool.and_eq_false_iff, decide_eq_false_iff_not]
    by_cases h1 : plc nm L < L.length
    · exact .inr (fun h2 => h ⟨h1, h2⟩)
    · exact .inl h1
theorem lput_here {nm : ByteArray} (t : T) : ∀ {L : Kl}, plc nm L < L.length → (L.getD (plc nm L) kd).1 = nm → lput nm t L = L.set (plc nm L) (nm, t)
  | [], h, _ => by simp at h
  | (a, u) :: r, h, he => by
    unfold plc at h he ⊢
    unfold lput
    split
    · rename_i hlt
      rw [if_pos hlt] at h he
      rw [lput_here t (L := r) (by simpa using h) (by simpa [List.getD] using he)]
      rfl
    · rename_i hlt
      rw [if_neg hlt] at he
      rw [if_pos (by simpa [List.getD] using he)]
      rfl
theorem lput_away {nm : ByteArray} (t : T) : ∀ {L : Kl}, lget nm L = none → lput nm t L = L.take (plc nm L) ++ (nm, t) :: L.drop (plc nm L)
  | [], _ => rfl
  | (a, u) :: r, hg => by
    unfold lget at hg
    unfold plc lput
    by_cases he : a = nm
    · rw [if_pos he] at hg; cases hg
    · rw [if_neg he] at hg
      by_cases hlt : a.data.toList < nm.data.toList
      · rw [if_pos hlt, if_pos hlt, lput_away t hg]
        rfl
      · rw [if_neg hlt, if_neg hlt, if_neg he]
        rfl
theorem ldel_plc {nm : ByteArray} : ∀ {L : Kl}, Rising L → plc nm L < L.length → (L.getD (plc nm L) kd).1 = nm → ldel nm L = L.take (plc nm L) ++ L.drop (plc nm L + 1)
  | [], _, h, _ => by simp at h
  | (a, u) :: r, hr, h, he => by
    obtain ⟨h1, h2⟩ := List.pairwise_cons.1 hr
    unfold plc at h he ⊢
    by_cases hlt : a.data.toList < nm.data.toList
    · rw [if_pos hlt] at h he ⊢
      have hne := str_ne hlt
      have : ldel nm ((a, u) :: r) = (a, u) :: ldel nm r := by simp [ldel, hne]
      rw [this, ldel_plc h2 (by simpa using h) (by simpa [List.getD] using he)]
      rfl
    · rw [if_neg hlt] at he ⊢
      have he : a = nm := by simpa [List.getD] using he
      subst he
      have : ldel a ((a, u) :: r) = r := by
        simp only [ldel, ne_eq, not_true_eq_false, decide_false, Bool.false_eq_true, not_false_eq_true, List.filter_cons_of_neg]
        rw [List.filter_eq_self.2]
        intro p hp
        have := str_ne (h1 p hp)
        simpa using fun e => this e.symm
      rw [this]
      simp
/-- One swap down. -/
theorem swap_down {α : Type} (R : List α) (x d : α) (j : Nat) (h0 : 0 < j) (hj : j ≤ R.length) :
    (((R.take j ++ x :: R.drop j).set j (R.getD (j - 1) d)).set (j - 1) x) = R.take (j - 1) ++ x :: R.drop (j - 1) := by
  have hlj : (R.take j).length = j := by rw [List.length_take]; omega
  have hlj1 : (R.take (j - 1)).length = j - 1 := by rw [List.length_take]; omega
  apply List.ext_getElem?
  intro i
  rw [List.getElem?_set, List.length_set, List.getElem?_set]
  have hlen : (R.take j ++ x :: R.drop j).length = R.length + 1 := by simp; omega
  rw [hlen]
  by_cases h1 : j - 1 = i
  · rw [if_pos h1, if_pos (by omega), List.getElem?_append_right (by omega), hlj1, show i - (j - 1) = 0 by omega]
    rfl
  · rw [if_neg h1]
    by_cases h2 : j = i
    · rw [if_pos h2, if_pos (by omega), List.getElem?_append_right (by omega), hlj1, show i - (j - 1) = 0 + 1 by omega, List.getElem?_cons_succ, List.getElem?_drop, show j - 1 + 0 = j - 1 by omega]
      rw [List.getElem?_eq_getElem (by omega)]
      simp [List.getD, show j - 1 < R.length by omega]
    · rw [if_neg h2]
      by_cases h3 : i < j - 1
      · rw [List.getElem?_append_left (by omega), List.getElem?_append_left (by omega), List.getElem?_take, List.getElem?_take, if_pos (by omega), if_pos h3]
      · rw [List.getElem?_append_right (by omega), List.getElem?_append_right (by omega), hlj, hlj1, show i - j = (i - j - 1) + 1 by omega, show i - (j - 1) = (i - j) + 1 by omega, List.getElem?_cons_succ, List.getElem?_cons_succ, List.getElem?_drop, List.getElem?_drop]
        congr 1
        omega
end Go.Proofs.Ytmncamnlmpajbaa

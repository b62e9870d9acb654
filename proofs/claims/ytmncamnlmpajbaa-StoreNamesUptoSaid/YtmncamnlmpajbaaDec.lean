/-
  Decimal digits (plain).
-/
import Derived.Test.YtmncamnlmpajbaaNum
namespace Go.Proofs.Ytmncamnlmpajbaa
namespace N

theorem _root_.List.reverseRecOn' {α : Type} {motive : List α → Prop} (l : List α) (nil : motive []) (snoc : ∀ l a, motive l → motive (l ++ [a])) : motive l := by
  have h : ∀ n (l : List α), l.length = n → motive l := by
    intro n
    induction n with
    | zero => intro l hl; rw [List.eq_nil_of_length_eq_zero hl]; exact nil
    | succ n ih =>
      intro l hl
      have hne : l ≠ [] := by intro e; rw [e] at hl; simp at hl
      rw [← List.dropLast_concat_getLast hne]
      exact snoc _ _ (ih _ (by simp [hl]))
  exact h l.length l rfl
theorem head_app {l r : List UInt8} (h : l ≠ []) : (l ++ r).head? = l.head? := by cases l with
  | nil => exact absurd rfl h
  | cons x l => rfl
def digc (d : Nat) : UInt8 := UInt8.ofNat (48 + d % 10)
/-- k decimal digits of n, the highest first. -/
def pad : Nat → Nat → List UInt8
  | 0, _ => []
  | k + 1, n => pad k (n / 10) ++ [digc n]
def decF : Nat → Nat → List UInt8
  | 0, _ => []
  | f + 1, n => if n < 10 then [digc n] else decF f (n / 10) ++ [digc n]
/-- The decimal text of a number. -/
def txt (n : Nat) : List UInt8 := decF (n + 1) n

theorem pad_length (k n : Nat) : (pad k n).length = k := by
  induction k generalizing n with
  | zero => rfl
  | succ k ih => simp [pad, ih]
theorem pad_add (a b n : Nat) : pad (a + b) n = pad a (n / 10 ^ b) ++ pad b n := by
  induction b generalizing n with
  | zero => simp [pad]
  | succ b ih => rw [← Nat.add_assoc, pad, pad, ih, Nat.div_div_eq_div_mul, Nat.pow_succ, Nat.mul_comm 10, List.append_assoc]
theorem decF_fuel (f g n : Nat) (hf : n < f) (hg : n < g) : decF f n = decF g n := by
  induction f generalizing g n with
  | zero => omega
  | succ f ih =>
    cases g with
    | zero => omega
    | succ g =>
      unfold decF
      split
      · rfl
      · rw [ih g (n / 10) (by omega) (by omega)]
theorem txt_small {n : Nat} (h : n < 10) : txt n = [digc n] := by unfold txt decF; rw [if_pos h]
theorem txt_big {n : Nat} (h : 10 ≤ n) : txt n = txt (n / 10) ++ [digc n] := by
  unfold txt
  rw [decF, if_neg (by omega), decF_fuel n (n / 10 + 1) (n / 10) (by omega) (by omega)]
theorem digc_zero {n : Nat} (h : digc n = 48) : n % 10 = 0 := by
  have h2 := congrArg UInt8.toNat h
  simp only [digc, UInt8.toNat_ofNat', Nat.reducePow] at h2
  have h3 : (48 + n % 10) % 256 = 48 := h2
  omega
theorem digc_toNat (n : Nat) : (digc n).toNat = 48 + n % 10 := by
  simp only [digc, UInt8.toNat_ofNat', Nat.reducePow]; omega
theorem txt_ne_nil (n : Nat) : txt n ≠ [] := by
  by_cases h : n < 10
  · rw [txt_small h]; simp
  · rw [txt_big (by omega)]; simp
/-- No nought ahead. -/
theorem txt_head {n : Nat} (h : 0 < n) : (txt n).head? ≠ some 48 := by
  induction n using Nat.strongRecOn with
  | _ n ih =>
    by_cases h1 : n < 10
    · rw [txt_small h1]
      intro h2
      have := digc_zero (by simpa using h2)
      omega
    · rw [txt_big (by omega), head_app (txt_ne_nil _)]
      exact ih (n / 10) (by omega) (by omega)
/-- The digits of a number of fewer than k digits: noughts, then its text. -/
theorem pad_txt (k n : Nat) (h0 : 0 < n) (h : n < 10 ^ k) : ∃ z, pad k n = List.replicate z 48 ++ txt n := by
  induction k generalizing n with
  | zero => simp at h; omega
  | succ k ih =>
    by_cases h1 : n < 10
    · refine ⟨k, ?_⟩
      rw [txt_small h1, pad]
      congr 1
      have : n / 10 = 0 := by omega
      rw [this]
      clear ih h h1 this h0
      induction k with
      | zero => rfl
      | succ k ih => rw [pad, Nat.zero_div, ih, List.replicate_succ']; rfl
    · obtain ⟨z, hz⟩ := ih (n / 10) (by omega) (by rw [Nat.pow_succ] at h; exact Nat.div_lt_of_lt_mul (by rw [Nat.mul_comm]; exact h))
      exact ⟨z, by rw [pad, hz, txt_big (show 10 ≤ n by omega), List.append_assoc]⟩

/-- The number that decimal digits say. -/
def val (l : List UInt8) : Nat := l.foldl (fun a c => 10 * a + (c.toNat - 48)) 0
def isDig (c : UInt8) : Prop := 48 ≤ c.toNat ∧ c.toNat ≤ 57
theorem val_snoc (l : List UInt8) (c : UInt8) : val (l ++ [c]) = 10 * val l + (c.toNat - 48) := by simp [val]
theorem val_txt (n : Nat) : val (txt n) = n := by
  induction n using Nat.strongRecOn with
  | _ n ih =>
    by_cases h1 : n < 10
    · rw [txt_small h1]; simp only [val, List.foldl_cons, List.foldl_nil, digc_toNat]; omega
    · rw [txt_big (by omega), val_snoc, ih (n / 10) (by omega), digc_toNat]; omega
theorem txt_digs (n : Nat) : ∀ c ∈ txt n, isDig c := by
  induction n using Nat.strongRecOn with
  | _ n ih =>
    by_cases h1 : n < 10
    · rw [txt_small h1]; intro c hc; rw [List.mem_singleton.1 hc]; unfold isDig; rw [digc_toNat]; omega
    · rw [txt_big (by omega)]
      intro c hc
      rcases List.mem_append.1 hc with hc | hc
      · exact ih (n / 10) (by omega) c hc
      · rw [List.mem_singleton.1 hc]; unfold isDig; rw [digc_toNat]; omega
/-- What may be a number's text. -/
def okTxt (l : List UInt8) : Prop := l ≠ [] ∧ (∀ c ∈ l, isDig c) ∧ (l.head? = some 48 → l.length = 1)
theorem okTxt_txt (n : Nat) : okTxt (txt n) := by
  refine ⟨txt_ne_nil n, txt_digs n, fun h => ?_⟩
  rcases Nat.eq_zero_or_pos n with h0 | h0
  · subst h0; rfl
  · exact absurd h (txt_head h0)
theorem val_pos {l : List UInt8} (h : ∀ c ∈ l, isDig c) (hh : l.head? ≠ some 48) (hne : l ≠ []) : 0 < val l := by
  induction l using List.reverseRecOn' with
  | nil => exact absurd rfl hne
  | snoc l c ih =>
    rw [val_snoc]
    by_cases h0 : l = []
    · subst h0
      have h1 := h c (by simp)
      have h2 : c ≠ 48 := fun e => hh (by simp [e])
      have h3 : c.toNat ≠ 48 := fun e => h2 (UInt8.toNat_inj.1 e)
      unfold isDig at h1; omega
    · have := ih (fun x hx => h x (by simp [hx])) (by rwa [head_app h0] at hh) h0
      omega
theorem digc_of {c : UInt8} (h : isDig c) (a : Nat) : digc (10 * a + (c.toNat - 48)) = c := by
  apply UInt8.toNat_inj.1
  rw [digc_toNat]; unfold isDig at h; omega
/-- What may be a number's text is that number's. -/
theorem txt_val {l : List UInt8} (h : okTxt l) : txt (val l) = l := by
  obtain ⟨hne, hd, hz⟩ := h
  induction l using List.reverseRecOn' with
  | nil => exact absurd rfl hne
  | snoc l c ih =>
    have hc := hd c (by simp)
    rw [val_snoc]
    by_cases h0 : l = []
    · subst h0
      have : val [] = 0 := rfl
      rw [this, txt_small (by unfold isDig at hc; omega), digc_of hc]; rfl
    · have hh : l.head? ≠ some 48 := fun e => by
        have := hz (by rw [head_app h0]; exact e)
        simp at this; exact h0 this
      have hp := val_pos (fun x hx => hd x (by simp [hx])) hh h0
      rw [txt_big (by omega), digc_of hc]
      have e : (10 * val l + (c.toNat - 48)) / 10 = val l := by unfold isDig at hc; omega
      rw [e, ih h0 (fun x hx => hd x (by simp [hx])) (fun e => absurd e hh)]

theorem val_append (a b : List UInt8) : val (a ++ b) = val a * 10 ^ b.length + val b := by
  induction b using List.reverseRecOn' with
  | nil => simp [val]
  | snoc b c ih =>
    rw [← List.append_assoc, val_snoc, val_snoc, ih, List.length_append, List.length_singleton, Nat.pow_succ, Nat.mul_add, Nat.add_assoc]
    congr 1
    rw [Nat.mul_left_comm, Nat.mul_comm 10]
theorem val_lt {l : List UInt8} (h : ∀ c ∈ l, isDig c) : val l < 10 ^ l.length := by
  induction l using List.reverseRecOn' with
  | nil => simp [val]
  | snoc l c ih =>
    have h1 := ih fun x hx => h x (by simp [hx])
    have h2 := h c (by simp)
    unfold isDig at h2
    rw [val_snoc, List.length_append, List.length_singleton, Nat.pow_succ]
    omega

/-- A list times f, and d more: what is carried into place k; the list after k places. -/
def mC (f d : Nat) (a : List Nat) : Nat → Nat
  | 0 => d
  | k + 1 => (mC f d a k + dg a k * f) / 4294967296
def mS (f d : Nat) (a : List Nat) : Nat → List Nat
  | 0 => a
  | k + 1 => (mS f d a k).set k ((mC f d a k + dg a k * f) % 4294967296)
theorem mC_lt {f d : Nat} {a : List Nat} (ha : Lim a) (hd : d < f) (k : Nat) : mC f d a k < f := by
  induction k with
  | zero => exact hd
  | succ k ih =>
    have h1 := dg_lt ha k
    have h2 : (dg a k + 1) * f ≤ 4294967296 * f := Nat.mul_le_mul_right _ h1
    rw [Nat.add_mul] at h2
    rw [mC, Nat.div_lt_iff_lt_mul (by omega), Nat.mul_comm f]
    omega
/-- The same bound where f and d are limbs. -/
theorem mC_lt' {f d : Nat} {a : List Nat} (ha : Lim a) (hf : f < 4294967296) (hd : d < 4294967296) (k : Nat) : mC f d a k < 4294967296 := by
  induction k with
  | zero => exact hd
  | succ k ih =>
    have h1 := mul_lt (dg_lt ha k) hf
    rw [mC]; omega
theorem mS_length (f d : Nat) (a : List Nat) (k : Nat) : (mS f d a k).length = a.length := by
  induction k with
  | zero => rfl
  | succ k ih => simp [mS, ih]
theorem mS_lim (f d : Nat) {a : List Nat} (ha : Lim a) (k : Nat) : Lim (mS f d a k) := by
  induction k with
  | zero => exact ha
  | succ k ih => exact ih.set _ _ (Nat.mod_lt _ (by omega))
theorem mS_dg_ge (f d : Nat) (a : List Nat) (k j : Nat) (h : k ≤ j) : dg (mS f d a k) j = dg a j := by
  induction k with
  | zero => rfl
  | succ k ih =>
    by_cases hk : k < a.length
    · rw [mS, dg_set _ _ _ _ (by rw [mS_length]; exact hk), if_neg (by omega), ih (by omega)]
    · rw [mS, List.set_eq_of_length_le (by rw [mS_length]; omega), ih (by omega)]
theorem mS_nv (f d : Nat) (a : List Nat) (k : Nat) (hk : k ≤ a.length) : nv ((mS f d a k).take k) + 4294967296 ^ k * mC f d a k = nv (a.take k) * f + d := by
  induction k with
  | zero => simp [mC, nv]
  | succ k ih =>
    have h1 := ih (by omega)
    have h2 := nv_take_succ a k (by omega)
    have h4 : nv ((mS f d a (k + 1)).take (k + 1)) = nv ((mS f d a k).take k) + 4294967296 ^ k * ((mC f d a k + dg a k * f) % 4294967296) := by
      rw [mS, take_set_succ _ _ _ (by rw [mS_length]; omega), nv_snoc, List.length_take, mS_length, Nat.min_eq_left (by omega)]
    have h6 : 4294967296 ^ k * ((mC f d a k + dg a k * f) % 4294967296 + 4294967296 * ((mC f d a k + dg a k * f) / 4294967296)) = 4294967296 ^ k * (mC f d a k + dg a k * f) := by rw [Nat.mod_add_div]
    simp only [Nat.mul_add] at h6
    rw [h2, h4, show mC f d a (k + 1) = (mC f d a k + dg a k * f) / 4294967296 from rfl, Nat.pow_succ, Nat.mul_assoc, Nat.add_mul, Nat.mul_assoc (4294967296 ^ k)]
    omega
theorem eq_ofN {l : List Nat} (hl : Lim l) (h : l = [] ∨ 4294967296 ^ (l.length - 1) ≤ nv l) : l = ofN (nv l) := by
  rcases h with rfl | h
  · rfl
  · have h1 := ofN_nv_length hl
    have h2 := lt_pow_ofN (nv l)
    refine nv_inj ?_ hl (lim_ofN _) (nv_ofN _).symm
    rcases Nat.lt_or_ge (ofN (nv l)).length l.length with h3 | h3
    · have h4 : 4294967296 ^ (ofN (nv l)).length ≤ 4294967296 ^ (l.length - 1) := Nat.pow_le_pow_right (by omega) (by omega)
      omega
    · omega
theorem mS_all {f d v : Nat} (hf : 0 < f) (h0 : mC f d (ofN v) (ofN v).length = 0) : mS f d (ofN v) (ofN v).length = ofN (v * f + d) := by
  have h1 := mS_nv f d (ofN v) (ofN v).length (Nat.le_refl _)
  have hlen := mS_length f d (ofN v) (ofN v).length
  rw [h0, List.take_length, List.take_of_length_le (by omega), nv_ofN, Nat.mul_zero, Nat.add_zero] at h1
  rw [← h1]
  refine eq_ofN (mS_lim f d (lim_ofN v) _) ?_
  by_cases hv : ofN v = []
  · left; exact List.eq_nil_of_length_eq_zero (by rw [hlen, hv]; rfl)
  · right
    have h2 := nv_ge (bare_ofN v) hv
    rw [nv_ofN] at h2
    rw [hlen, h1]
    have := Nat.le_mul_of_pos_right v hf
    omega
theorem mS_more {f d v : Nat} (h0 : 0 < mC f d (ofN v) (ofN v).length) (hc : mC f d (ofN v) (ofN v).length < 4294967296) : mS f d (ofN v) (ofN v).length ++ [mC f d (ofN v) (ofN v).length] = ofN (v * f + d) := by
  have h1 := mS_nv f d (ofN v) (ofN v).length (Nat.le_refl _)
  have hlen := mS_length f d (ofN v) (ofN v).length
  rw [List.take_length, List.take_of_length_le (by omega), nv_ofN] at h1
  have e : nv (mS f d (ofN v) (ofN v).length ++ [mC f d (ofN v) (ofN v).length]) = v * f + d := by rw [nv_snoc, hlen]; exact h1
  rw [← e]
  refine eq_ofN (Lim.app (mS_lim f d (lim_ofN v) _) (Lim.cons hc Lim.nil)) (.inr ?_)
  rw [List.length_append, List.length_singleton, Nat.add_sub_cancel, nv_snoc]
  have := Nat.le_mul_of_pos_right (4294967296 ^ (mS f d (ofN v) (ofN v).length).length) h0
  omega
end N
end Go.Proofs.Ytmncamnlmpajbaa

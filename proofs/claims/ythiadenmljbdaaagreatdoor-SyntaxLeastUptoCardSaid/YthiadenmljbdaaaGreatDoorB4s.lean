/-
  s: the parts LexA of the proof.
-/
import Derived.Test.YthiadenmljbdaaaGreatDoorB3s
import Derived.Test.YthiadenmljbdaaaGreatDoorB2s
import Derived.WalkKit
section
namespace Go.Proofs.YthiadenmljbdaaaGreatDoor
open Go.RowKit
theorem getD_byte {S : ByteArray} {i : Nat} (h : i < S.size) : S.data.toList.getD i 0 = S[i]'h := by
  have := byte_at h
  simp [List.getD, this]
theorem X.letter_cases (c : UInt8) : (X.letter c = true ∧ 97 ≤ c.toNat ∧ c.toNat ≤ 122) ∨ (X.letter c = true ∧ 65 ≤ c.toNat ∧ c.toNat ≤ 90) ∨ (X.letter c = false ∧ c.toNat < 65) ∨ (X.letter c = false ∧ 90 < c.toNat ∧ c.toNat < 97) ∨ (X.letter c = false ∧ 122 < c.toNat) := by
  unfold X.letter
  rcases (show (97 ≤ c.toNat ∧ c.toNat ≤ 122) ∨ (65 ≤ c.toNat ∧ c.toNat ≤ 90) ∨ c.toNat < 65 ∨ (90 < c.toNat ∧ c.toNat < 97) ∨ 122 < c.toNat by omega) with h | h | h | h | h
  · exact .inl ⟨by simp [h], h⟩
  · exact .inr (.inl ⟨by simp [h], h⟩)
  · exact .inr (.inr (.inl ⟨by simp; omega, h⟩))
  · exact .inr (.inr (.inr (.inl ⟨by simp; omega, h⟩)))
  · exact .inr (.inr (.inr (.inr ⟨by simp; omega, h⟩)))
theorem X.digit_cases (c : UInt8) : (X.digit c = true ∧ 48 ≤ c.toNat ∧ c.toNat ≤ 57) ∨ (X.digit c = false ∧ c.toNat < 48) ∨ (X.digit c = false ∧ 57 < c.toNat) := by
  unfold X.digit
  rcases (show (48 ≤ c.toNat ∧ c.toNat ≤ 57) ∨ c.toNat < 48 ∨ 57 < c.toNat by omega) with h | h | h
  · exact .inl ⟨by simp [h], h⟩
  · exact .inr (.inl ⟨by simp; omega, h⟩)
  · exact .inr (.inr ⟨by simp; omega, h⟩)
theorem letter_x (w : World) (c : UInt8) :
    Calls Tryz.prog 116 #[.int .u8 (c.toNat : Nat)] w fun e w' => e = .returned (.bool (X.letter c)) ∧ w = w' := by
  rcases X.letter_cases c with ⟨hc, h1, h2⟩ | ⟨hc, h1, h2⟩ | ⟨hc, h1⟩ | ⟨hc, h1, h2⟩ | ⟨hc, h1⟩
  · rw [hc]
    clear hc
    have d0a : decide ((c.toNat : Int) ≥ 97) = true := decide_eq_true (by omega)
    have d0b : decide ((97 : Int) ≤ c.toNat) = true := decide_eq_true (by omega)
    have d1a : decide ((c.toNat : Int) ≤ 122) = true := decide_eq_true (by omega)
    have d2a : decide ((c.toNat : Int) ≥ 65) = true := decide_eq_true (by omega)
    have d2b : decide ((65 : Int) ≤ c.toNat) = true := decide_eq_true (by omega)
    have d3a : decide ((c.toNat : Int) ≤ 90) = false := decide_eq_false (by omega)
    clear h1 h2
    go_enter Tryz.func116, Tryz.ntmps116
    go_wp2_with fail
    go_ret
    exact ⟨rfl, rfl⟩
  · rw [hc]
    clear hc
    have d0a : decide ((c.toNat : Int) ≥ 97) = false := decide_eq_false (by omega)
    have d0b : decide ((97 : Int) ≤ c.toNat) = false := decide_eq_false (by omega)
    have d1a : decide ((c.toNat : Int) ≤ 122) = true := decide_eq_true (by omega)
    have d2a : decide ((c.toNat : Int) ≥ 65) = true := decide_eq_true (by omega)
    have d2b : decide ((65 : Int) ≤ c.toNat) = true := decide_eq_true (by omega)
    have d3a : decide ((c.toNat : Int) ≤ 90) = true := decide_eq_true (by omega)
    clear h1 h2
    go_enter Tryz.func116, Tryz.ntmps116
    go_wp2_with fail
    go_ret
    exact ⟨rfl, rfl⟩
  · rw [hc]
    clear hc
    have d0a : decide ((c.toNat : Int) ≥ 97) = false := decide_eq_false (by omega)
    have d0b : decide ((97 : Int) ≤ c.toNat) = false := decide_eq_false (by omega)
    have d1a : decide ((c.toNat : Int) ≤ 122) = true := decide_eq_true (by omega)
    have d2a : decide ((c.toNat : Int) ≥ 65) = false := decide_eq_false (by omega)
    have d2b : decide ((65 : Int) ≤ c.toNat) = false := decide_eq_false (by omega)
    have d3a : decide ((c.toNat : Int) ≤ 90) = true := decide_eq_true (by omega)
    clear h1
    go_enter Tryz.func116, Tryz.ntmps116
    go_wp2_with fail
    go_ret
    exact ⟨rfl, rfl⟩
  · rw [hc]
    clear hc
    have d0a : decide ((c.toNat : Int) ≥ 97) = false := decide_eq_false (by omega)
    have d0b : decide ((97 : Int) ≤ c.toNat) = false := decide_eq_false (by omega)
    have d1a : decide ((c.toNat : Int) ≤ 122) = true := decide_eq_true (by omega)
    have d2a : decide ((c.toNat : Int) ≥ 65) = true := decide_eq_true (by omega)
    have d2b : decide ((65 : Int) ≤ c.toNat) = true := decide_eq_true (by omega)
    have d3a : decide ((c.toNat : Int) ≤ 90) = false := decide_eq_false (by omega)
    clear h1 h2
    go_enter Tryz.func116, Tryz.ntmps116
    go_wp2_with fail
    go_ret
    exact ⟨rfl, rfl⟩
  · rw [hc]
    clear hc
    have d0a : decide ((c.toNat : Int) ≥ 97) = true := decide_eq_true (by omega)
    have d0b : decide ((97 : Int) ≤ c.toNat) = true := decide_eq_true (by omega)
    have d1a : decide ((c.toNat : Int) ≤ 122) = false := decide_eq_false (by omega)
    have d2a : decide ((c.toNat : Int) ≥ 65) = true := decide_eq_true (by omega)
    have d2b : decide ((65 : Int) ≤ c.toNat) = true := decide_eq_true (by omega)
    have d3a : decide ((c.toNat : Int) ≤ 90) = false := decide_eq_false (by omega)
    clear h1
    go_enter Tryz.func116, Tryz.ntmps116
    go_wp2_with fail
    go_ret
    exact ⟨rfl, rfl⟩
theorem digit_x (w : World) (c : UInt8) :
    Calls Tryz.prog 148 #[.int .u8 (c.toNat : Nat)] w fun e w' => e = .returned (.bool (X.digit c)) ∧ w = w' := by
  rcases X.digit_cases c with ⟨hc, h1, h2⟩ | ⟨hc, h1⟩ | ⟨hc, h1⟩
  · rw [hc]
    clear hc
    have d0a : decide ((c.toNat : Int) ≥ 48) = true := decide_eq_true (by omega)
    have d0b : decide ((48 : Int) ≤ c.toNat) = true := decide_eq_true (by omega)
    have d1a : decide ((c.toNat : Int) ≤ 57) = true := decide_eq_true (by omega)
    clear h1 h2
    go_enter Tryz.func148, Tryz.ntmps148
    go_wp2_with fail
    go_ret
    exact ⟨rfl, rfl⟩
  · rw [hc]
    clear hc
    have d0a : decide ((c.toNat : Int) ≥ 48) = false := decide_eq_false (by omega)
    have d0b : decide ((48 : Int) ≤ c.toNat) = false := decide_eq_false (by omega)
    have d1a : decide ((c.toNat : Int) ≤ 57) = true := decide_eq_true (by omega)
    clear h1
    go_enter Tryz.func148, Tryz.ntmps148
    go_wp2_with fail
    go_ret
    exact ⟨rfl, rfl⟩
  · rw [hc]
    clear hc
    have d0a : decide ((c.toNat : Int) ≥ 48) = true := decide_eq_true (by omega)
    have d0b : decide ((48 : Int) ≤ c.toNat) = true := decide_eq_true (by omega)
    have d1a : decide ((c.toNat : Int) ≤ 57) = false := decide_eq_false (by omega)
    clear h1
    go_enter Tryz.func148, Tryz.ntmps148
    go_wp2_with fail
    go_ret
    exact ⟨rfl, rfl⟩
theorem bytes_ext {S : ByteArray} {l : List UInt8} (h : S.data.toList = l) : S = ⟨l.toArray⟩ := by
  obtain ⟨⟨l'⟩⟩ := S
  have : l' = l := h
  rw [this]
theorem toList_beq {S : ByteArray} {l : List UInt8} (h : S.data.toList ≠ l) : (S.toList == l) = false := by
  rw [ByteArray.toList_eq]
  simpa using h
theorem X.word_cases (l : List UInt8) : (X.word l = true ∧ (l = [97, 110, 100] ∨ l = [111, 114] ∨ l = [110, 111, 116] ∨ l = [105, 109, 112, 108, 105, 101, 115] ∨ l = [105, 102, 102] ∨ l = [115, 111, 109, 101] ∨ l = [97, 108, 108] ∨ l = [116, 114, 117, 101] ∨ l = [102, 97, 108, 115, 101] ∨ l = [100, 105, 118, 105, 100, 101, 115])) ∨ (X.word l = false ∧ l ≠ [97, 110, 100] ∧ l ≠ [111, 114] ∧ l ≠ [110, 111, 116] ∧ l ≠ [105, 109, 112, 108, 105, 101, 115] ∧ l ≠ [105, 102, 102] ∧ l ≠ [115, 111, 109, 101] ∧ l ≠ [97, 108, 108] ∧ l ≠ [116, 114, 117, 101] ∧ l ≠ [102, 97, 108, 115, 101] ∧ l ≠ [100, 105, 118, 105, 100, 101, 115]) := by
  by_cases h : X.word l = true
  · refine .inl ⟨h, ?_⟩
    have h2 : l ∈ X.words := by simpa [X.word] using h
    simpa [X.words] using h2
  · have h2 : l ∉ X.words := by simpa [X.word] using h
    refine .inr ⟨by simpa using h, ?_⟩
    simpa [X.words] using h2
set_option maxRecDepth 100000 in
theorem word_x (w : World) (S : ByteArray) :
    Calls Tryz.prog 118 #[.string S] w fun e w' => e = .returned (.bool (X.word S.data.toList)) ∧ w = w' := by
  rcases X.word_cases S.data.toList with ⟨_, h | h | h | h | h | h | h | h | h | h⟩ | ⟨hw, h0, h1, h2, h3, h4, h5, h6, h7, h8, h9⟩
  · obtain rfl := bytes_ext h
    clear h
    go_enter Tryz.func118, Tryz.ntmps118
    go_wp2_with fail
    go_ret
    exact ⟨rfl, rfl⟩
  · obtain rfl := bytes_ext h
    clear h
    go_enter Tryz.func118, Tryz.ntmps118
    go_wp2_with fail
    go_ret
    exact ⟨rfl, rfl⟩
  · obtain rfl := bytes_ext h
    clear h
    go_enter Tryz.func118, Tryz.ntmps118
    go_wp2_with fail
    go_ret
    exact ⟨rfl, rfl⟩
  · obtain rfl := bytes_ext h
    clear h
    go_enter Tryz.func118, Tryz.ntmps118
    go_wp2_with fail
    go_ret
    exact ⟨rfl, rfl⟩
  · obtain rfl := bytes_ext h
    clear h
    go_enter Tryz.func118, Tryz.ntmps118
    go_wp2_with fail
    go_ret
    exact ⟨rfl, rfl⟩
  · obtain rfl := bytes_ext h
    clear h
    go_enter Tryz.func118, Tryz.ntmps118
    go_wp2_with fail
    go_ret
    exact ⟨rfl, rfl⟩
  · obtain rfl := bytes_ext h
    clear h
    go_enter Tryz.func118, Tryz.ntmps118
    go_wp2_with fail
    go_ret
    exact ⟨rfl, rfl⟩
  · obtain rfl := bytes_ext h
    clear h
    go_enter Tryz.func118, Tryz.ntmps118
    go_wp2_with fail
    go_ret
    exact ⟨rfl, rfl⟩
  · obtain rfl := bytes_ext h
    clear h
    go_enter Tryz.func118, Tryz.ntmps118
    go_wp2_with fail
    go_ret
    exact ⟨rfl, rfl⟩
  · obtain rfl := bytes_ext h
    clear h
    go_enter Tryz.func118, Tryz.ntmps118
    go_wp2_with fail
    go_ret
    exact ⟨rfl, rfl⟩
  · rw [hw]
    clear hw
    replace h0 := toList_beq h0
    replace h1 := toList_beq h1
    replace h2 := toList_beq h2
    replace h3 := toList_beq h3
    replace h4 := toList_beq h4
    replace h5 := toList_beq h5
    replace h6 := toList_beq h6
    replace h7 := toList_beq h7
    replace h8 := toList_beq h8
    replace h9 := toList_beq h9
    go_enter Tryz.func118, Tryz.ntmps118
    go_wp2_with fail
    go_ret
    exact ⟨rfl, rfl⟩
theorem X.row_cases (c : UInt8) : (X.rowc c = true ∧ X.letter c = true) ∨ (X.rowc c = true ∧ X.letter c = false ∧ X.digit c = true) ∨ (X.rowc c = true ∧ X.letter c = false ∧ X.digit c = false ∧ ((c.toNat : Int) == 95) = true) ∨ (X.rowc c = false ∧ X.letter c = false ∧ X.digit c = false ∧ ((c.toNat : Int) == 95) = false) := by
  unfold X.rowc
  cases X.letter c
  · cases X.digit c
    · by_cases h : c.toNat = 95
      · exact .inr (.inr (.inl ⟨by simp [h], rfl, rfl, by simp [h]⟩))
      · exact .inr (.inr (.inr ⟨by simp [h], rfl, rfl, by simp; omega⟩))
    · exact .inr (.inl ⟨rfl, rfl, rfl⟩)
  · exact .inl ⟨rfl, rfl⟩
set_option maxRecDepth 100000 in
theorem row_x (w : World) (S : ByteArray) (hS : S.size ≤ 9223372036854775806) :
    Calls Tryz.prog 117 #[.string S] w fun e w' => e = .returned (.int .i64 (X.rowLen S.data.toList : Nat)) ∧ w = w' := by
  go_enter Tryz.func117, Tryz.ntmps117
  go_wp2_with fail
  go_loopw [3] (fun v3 wr => ∃ k : Nat, k ≤ S.size ∧ v3 = .int .i64 (k : Nat) ∧ (∀ j, j < k → X.rowc (S.data.toList.getD j 0) = true) ∧ w = wr) (fun v3 _ => S.size - (intOf v3).toNat)
  case atStart => exact ⟨0, by omega, rfl, fun j hj => by omega, rfl⟩
  case round =>
    obtain ⟨k, hk, rfl, hrow, rfl⟩ := hrel
    have HROW := Lib.hid hrow
    clear hrow
    by_cases hkn : k < S.size
    · have hb := getD_byte hkn
      have HB := Lib.hid hb
      clear hb
      have d0 : decide ((k : Int) < S.size) = true := decide_eq_true (by omega)
      have hnext : X.rowc (S[k]'hkn) = true → ∀ j, j < k + 1 → X.rowc (S.data.toList.getD j 0) = true := fun h j hj => by
        rcases Nat.lt_or_ge j k with h1 | h1
        · exact HROW.out j h1
        · obtain rfl : j = k := by omega
          rw [HB.out]; exact h
      have hstop : X.rowc (S[k]'hkn) = false → X.rowLen S.data.toList = k := fun h =>
        X.rowLen_eq (by rw [size_list]; exact hk) HROW.out (.inr (by rw [HB.out]; exact h))
      have HN := Lib.hid hnext
      have HST := Lib.hid hstop
      clear hnext hstop
      rcases X.row_cases (S[k]'hkn) with ⟨hr, hl⟩ | ⟨hr, hl, hd⟩ | ⟨hr, hl, hd, hu⟩ | ⟨hr, hl, hd, hu⟩
      all_goals
        have HR := Lib.hid hr
        clear hr
        go_wp2_with (first
          | (go_at_call 116; refine (letter_x _ _).mono ?_; rintro e w2 ⟨rfl, rfl⟩; rw [hl])
          | (go_at_call 148; refine (digit_x _ _).mono ?_; rintro e w2 ⟨rfl, rfl⟩; rw [hd]))
      iterate 3
        · go_roundw
          case rel => exact ⟨k + 1, by omega, by go_num, HN.out HR.out, by trivial⟩
          case measure => simp [intOf]; omega
      · go_ret
        exact ⟨by rw [HST.out HR.out]; rfl, rfl⟩
    · obtain rfl : k = S.size := by omega
      have hstop : X.rowLen S.data.toList = S.size := X.rowLen_eq (by rw [size_list]; exact Nat.le_refl _) HROW.out (.inl (by rw [size_list]))
      have HST := Lib.hid hstop
      clear hstop
      go_wp2_with fail
      go_ret
      exact ⟨by rw [HST.out]; rfl, rfl⟩
theorem X.name_eq {S : ByteArray} (h : 0 < S.size) : X.name S.data.toList = (X.letter (S[0]'h) && (X.rowLen S.data.toList == S.size && (decide (S.size ≤ 24) && !X.word S.data.toList))) := by
  unfold X.name
  have h1 : S.data.toList ≠ [] := fun e => by have := size_list S; rw [e] at this; simp only [List.length_nil] at this; omega
  have h2 : S.data.toList.isEmpty = false := by cases hh : S.data.toList with | nil => exact absurd hh h1 | cons _ _ => rfl
  have h3 : S.data.toList.headD 0 = S[0]'h := by have := getD_byte h; cases hh : S.data.toList with | nil => exact absurd hh h1 | cons c l => rw [hh] at this; simpa [List.getD] using this
  rw [h2, h3, size_list]; rfl
set_option maxRecDepth 100000 in
set_option maxHeartbeats 1600000 in
theorem isname_x (w : World) (S : ByteArray) (hS : S.size ≤ 4611686018427387904) :
    Calls Tryz.prog 82 #[.string S] w fun e w' => e = .returned (.bool (X.name S.data.toList)) ∧ w = w' := by
  rcases Nat.eq_zero_or_pos S.size with h0 | h0
  · have e : S.data.toList = [] := List.eq_nil_of_length_eq_zero (by rw [size_list]; exact h0)
    obtain rfl := bytes_ext e
    go_enter Tryz.func82, Tryz.ntmps82
    go_wp2_with fail
    go_ret
    exact ⟨rfl, rfl⟩
  · rw [X.name_eq h0]
    obtain ⟨hne, hne2⟩ := not_empty h0
    have h0i : (0 : Int) < S.size := by omega
    cases hl : X.letter (S[0]'h0)
    · go_enter Tryz.func82, Tryz.ntmps82
      go_wp2_with (go_at_call 116; refine (letter_x _ _).mono ?_; rintro e w2 ⟨rfl, rfl⟩; rw [hl])
      go_ret
      exact ⟨rfl, rfl⟩
    · obtain ⟨R, hR⟩ : ∃ R, X.rowLen S.data.toList = R := ⟨_, rfl⟩
      by_cases hr : R = S.size
      · subst hr
        obtain ⟨b1, hb1⟩ : ∃ b, decide ((S.size : Int) ≤ 24) = b := ⟨_, rfl⟩
        have hb2 : decide (S.size ≤ 24) = b1 := by rw [← hb1]; exact decide_eq_decide.2 (by omega)
        obtain ⟨b2, hw⟩ : ∃ b, X.word S.data.toList = b := ⟨_, rfl⟩
        rw [hR, hb2, hw]
        clear hb2
        cases b1
        · go_enter Tryz.func82, Tryz.ntmps82
          go_wp2_with (first
            | (go_at_call 116; refine (letter_x _ _).mono ?_; rintro e w2 ⟨rfl, rfl⟩; rw [hl])
            | (go_at_call 117; refine (row_x _ _ (by omega)).mono ?_; rintro e w2 ⟨rfl, rfl⟩; rw [hR]))
          go_ret
          exact ⟨by first | rfl | simp, rfl⟩
        · cases b2
          all_goals
            go_enter Tryz.func82, Tryz.ntmps82
            go_wp2_with (first
              | (go_at_call 116; refine (letter_x _ _).mono ?_; rintro e w2 ⟨rfl, rfl⟩; rw [hl])
              | (go_at_call 117; refine (row_x _ _ (by omega)).mono ?_; rintro e w2 ⟨rfl, rfl⟩; rw [hR])
              | (go_at_call 118; refine (word_x _ _).mono ?_; rintro e w2 ⟨rfl, rfl⟩; rw [hw]))
            go_ret
            exact ⟨by first | rfl | simp, rfl⟩
      · have hri : ((R : Int) == S.size) = false := by simp; omega
        have hrn : (R == S.size) = false := by simpa using hr
        rw [hR, hrn]
        clear hr hrn
        go_enter Tryz.func82, Tryz.ntmps82
        go_wp2_with (first
          | (go_at_call 116; refine (letter_x _ _).mono ?_; rintro e w2 ⟨rfl, rfl⟩; rw [hl])
          | (go_at_call 117; refine (row_x _ _ (by omega)).mono ?_; rintro e w2 ⟨rfl, rfl⟩; rw [hR]))
        go_ret
        exact ⟨rfl, rfl⟩
end Go.Proofs.YthiadenmljbdaaaGreatDoor
end

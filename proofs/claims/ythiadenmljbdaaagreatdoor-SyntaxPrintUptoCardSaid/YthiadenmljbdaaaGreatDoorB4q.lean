/-
  q: the parts LexA LexB.
-/
import Derived.Test.YthiadenmljbdaaaGreatDoorB2q
import Derived.Test.YthiadenmljbdaaaGreatDoorB3q
import Derived.WalkKit
import Derived.Laws.Rows
import Derived.Deep.Cut
namespace Go.Proofs.YthiadenmljbdaaaGreatDoor
section
open Go.RowKit
theorem getD_byte {S : ByteArray} {i : Nat} (h : i < S.size) : S.data.toList.getD i 0 = S[i]'h := by
 have := byte_at h
 simp [List.getD, this]
theorem X.letter_cases (c : UInt8) : (X.letter c = true ∧ 97 ≤ c.toNat ∧ c.toNat ≤ 122) ∨ (X.letter c = true ∧ 65 ≤ c.toNat ∧ c.toNat ≤ 90) ∨ (X.letter c = false ∧ c.toNat < 65) ∨ (X.letter c = false ∧ 90 < c.toNat ∧ c.toNat < 97) ∨ (X.letter c = false ∧ 122 < c.toNat) := by
 unfold X.letter
 rcases (show (97 ≤ c.toNat ∧ c.toNat ≤ 122) ∨ (65 ≤ c.toNat ∧ c.toNat ≤ 90) ∨ c.toNat < 65 ∨ (90 < c.toNat ∧ c.toNat < 97) ∨ 122 < c.toNat by omega) with h | h | h | h | h
 · exact .inl ⟨by simp [h], h⟩
 · exact .inr (.inl ⟨by simp [h], h⟩)
 · exact .inr (.inr (.inl ⟨by simp; omega, h⟩))
 · exact .inr (.inr (.inr (.inl ⟨by simp; omega, h⟩)))
 · exact .inr (.inr (.inr (.inr ⟨by simp; omega, h⟩)))
theorem X.digit_cases (c : UInt8) : (X.digit c = true ∧ 48 ≤ c.toNat ∧ c.toNat ≤ 57) ∨ (X.digit c = false ∧ c.toNat < 48) ∨ (X.digit c = false ∧ 57 < c.toNat) := by
 unfold X.digit
 rcases (show (48 ≤ c.toNat ∧ c.toNat ≤ 57) ∨ c.toNat < 48 ∨ 57 < c.toNat by omega) with h | h | h
 · exact .inl ⟨by simp [h], h⟩
 · exact .inr (.inl ⟨by simp; omega, h⟩)
 · exact .inr (.inr ⟨by simp; omega, h⟩)
theorem letter_x (w : World) (c : UInt8) :
    Calls Tryz.prog 116 #[.int .u8 (c.toNat : Nat)] w fun e w' => e = .returned (.bool (X.letter c)) ∧ w = w' := by
  rcases X.letter_cases c with ⟨hc, h1, h2⟩ | ⟨hc, h1, h2⟩ | ⟨hc, h1⟩ | ⟨hc, h1, h2⟩ | ⟨hc, h1⟩
  ·
   rw [hc]
   clear hc
   have d0a : decide ((c.toNat : Int) ≥ 97) = true := decide_eq_true (by omega)
   have d0b : decide ((97 : Int) ≤ c.toNat) = true := decide_eq_true (by omega)
   have d1a : decide ((c.toNat : Int) ≤ 122) = true := decide_eq_true (by omega)
   have d2a : decide ((c.toNat : Int) ≥ 65) = true := decide_eq_true (by omega)
   have d2b : decide ((65 : Int) ≤ c.toNat) = true := decide_eq_true (by omega)
   have d3a : decide ((c.toNat : Int) ≤ 90) = false := decide_eq_false (by omega)
   clear h1 h2
   go_enter Tryz.func116, Tryz.ntmps116
   go_wp2_with fail
   go_ret
   exact ⟨rfl, rfl⟩
  ·
   rw [hc]
   clear hc
   have d0a : decide ((c.toNat : Int) ≥ 97) = false := decide_eq_false (by omega)
   have d0b : decide ((97 : Int) ≤ c.toNat) = false := decide_eq_false (by omega)
   have d1a : decide ((c.toNat : Int) ≤ 122) = true := decide_eq_true (by omega)
   have d2a : decide ((c.toNat : Int) ≥ 65) = true := decide_eq_true (by omega)
   have d2b : decide ((65 : Int) ≤ c.toNat) = true := decide_eq_true (by omega)
   have d3a : decide ((c.toNat : Int) ≤ 90) = true := decide_eq_true (by omega)
   clear h1 h2
   go_enter Tryz.func116, Tryz.ntmps116
   go_wp2_with fail
   go_ret
   exact ⟨rfl, rfl⟩
  ·
   rw [hc]
   clear hc
   have d0a : decide ((c.toNat : Int) ≥ 97) = false := decide_eq_false (by omega)
   have d0b : decide ((97 : Int) ≤ c.toNat) = false := decide_eq_false (by omega)
   have d1a : decide ((c.toNat : Int) ≤ 122) = true := decide_eq_true (by omega)
   have d2a : decide ((c.toNat : Int) ≥ 65) = false := decide_eq_false (by omega)
   have d2b : decide ((65 : Int) ≤ c.toNat) = false := decide_eq_false (by omega)
   have d3a : decide ((c.toNat : Int) ≤ 90) = true := decide_eq_true (by omega)
   clear h1
   go_enter Tryz.func116, Tryz.ntmps116
   go_wp2_with fail
   go_ret
   exact ⟨rfl, rfl⟩
  ·
   rw [hc]
   clear hc
   have d0a : decide ((c.toNat : Int) ≥ 97) = false := decide_eq_false (by omega)
   have d0b : decide ((97 : Int) ≤ c.toNat) = false := decide_eq_false (by omega)
   have d1a : decide ((c.toNat : Int) ≤ 122) = true := decide_eq_true (by omega)
   have d2a : decide ((c.toNat : Int) ≥ 65) = true := decide_eq_true (by omega)
   have d2b : decide ((65 : Int) ≤ c.toNat) = true := decide_eq_true (by omega)
   have d3a : decide ((c.toNat : Int) ≤ 90) = false := decide_eq_false (by omega)
   clear h1 h2
   go_enter Tryz.func116, Tryz.ntmps116
   go_wp2_with fail
   go_ret
   exact ⟨rfl, rfl⟩
  ·
   rw [hc]
   clear hc
   have d0a : decide ((c.toNat : Int) ≥ 97) = true := decide_eq_true (by omega)
   have d0b : decide ((97 : Int) ≤ c.toNat) = true := decide_eq_true (by omega)
   have d1a : decide ((c.toNat : Int) ≤ 122) = false := decide_eq_false (by omega)
   have d2a : decide ((c.toNat : Int) ≥ 65) = true := decide_eq_true (by omega)
   have d2b : decide ((65 : Int) ≤ c.toNat) = true := decide_eq_true (by omega)
   have d3a : decide ((c.toNat : Int) ≤ 90) = false := decide_eq_false (by omega)
   clear h1
   go_enter Tryz.func116, Tryz.ntmps116
   go_wp2_with fail
   go_ret
   exact ⟨rfl, rfl⟩
theorem digit_x (w : World) (c : UInt8) :
    Calls Tryz.prog 148 #[.int .u8 (c.toNat : Nat)] w fun e w' => e = .returned (.bool (X.digit c)) ∧ w = w' := by
  rcases X.digit_cases c with ⟨hc, h1, h2⟩ | ⟨hc, h1⟩ | ⟨hc, h1⟩
  ·
   rw [hc]
   clear hc
   have d0a : decide ((c.toNat : Int) ≥ 48) = true := decide_eq_true (by omega)
   have d0b : decide ((48 : Int) ≤ c.toNat) = true := decide_eq_true (by omega)
   have d1a : decide ((c.toNat : Int) ≤ 57) = true := decide_eq_true (by omega)
   clear h1 h2
   go_enter Tryz.func148, Tryz.ntmps148
   go_wp2_with fail
   go_ret
   exact ⟨rfl, rfl⟩
  ·
   rw [hc]
   clear hc
   have d0a : decide ((c.toNat : Int) ≥ 48) = false := decide_eq_false (by omega)
   have d0b : decide ((48 : Int) ≤ c.toNat) = false := decide_eq_false (by omega)
   have d1a : decide ((c.toNat : Int) ≤ 57) = true := decide_eq_true (by omega)
   clear h1
   go_enter Tryz.func148, Tryz.ntmps148
   go_wp2_with fail
   go_ret
   exact ⟨rfl, rfl⟩
  ·
   rw [hc]
   clear hc
   have d0a : decide ((c.toNat : Int) ≥ 48) = true := decide_eq_true (by omega)
   have d0b : decide ((48 : Int) ≤ c.toNat) = true := decide_eq_true (by omega)
   have d1a : decide ((c.toNat : Int) ≤ 57) = false := decide_eq_false (by omega)
   clear h1
   go_enter Tryz.func148, Tryz.ntmps148
   go_wp2_with fail
   go_ret
   exact ⟨rfl, rfl⟩
theorem letter_r (w : World) (c : UInt8) :
    Calls Tryz.prog 121 #[.int .u8 (c.toNat : Nat)] w fun e w' => e = .returned (.bool (X.letter c)) ∧ w = w' := by
  rcases X.letter_cases c with ⟨hc, h1, h2⟩ | ⟨hc, h1, h2⟩ | ⟨hc, h1⟩ | ⟨hc, h1, h2⟩ | ⟨hc, h1⟩
  ·
   rw [hc]
   clear hc
   have d0a : decide ((c.toNat : Int) ≥ 97) = true := decide_eq_true (by omega)
   have d0b : decide ((97 : Int) ≤ c.toNat) = true := decide_eq_true (by omega)
   have d1a : decide ((c.toNat : Int) ≤ 122) = true := decide_eq_true (by omega)
   have d2a : decide ((c.toNat : Int) ≥ 65) = true := decide_eq_true (by omega)
   have d2b : decide ((65 : Int) ≤ c.toNat) = true := decide_eq_true (by omega)
   have d3a : decide ((c.toNat : Int) ≤ 90) = false := decide_eq_false (by omega)
   clear h1 h2
   go_enter Tryz.func121, Tryz.ntmps121
   go_wp2_with fail
   go_ret
   exact ⟨rfl, rfl⟩
  ·
   rw [hc]
   clear hc
   have d0a : decide ((c.toNat : Int) ≥ 97) = false := decide_eq_false (by omega)
   have d0b : decide ((97 : Int) ≤ c.toNat) = false := decide_eq_false (by omega)
   have d1a : decide ((c.toNat : Int) ≤ 122) = true := decide_eq_true (by omega)
   have d2a : decide ((c.toNat : Int) ≥ 65) = true := decide_eq_true (by omega)
   have d2b : decide ((65 : Int) ≤ c.toNat) = true := decide_eq_true (by omega)
   have d3a : decide ((c.toNat : Int) ≤ 90) = true := decide_eq_true (by omega)
   clear h1 h2
   go_enter Tryz.func121, Tryz.ntmps121
   go_wp2_with fail
   go_ret
   exact ⟨rfl, rfl⟩
  ·
   rw [hc]
   clear hc
   have d0a : decide ((c.toNat : Int) ≥ 97) = false := decide_eq_false (by omega)
   have d0b : decide ((97 : Int) ≤ c.toNat) = false := decide_eq_false (by omega)
   have d1a : decide ((c.toNat : Int) ≤ 122) = true := decide_eq_true (by omega)
   have d2a : decide ((c.toNat : Int) ≥ 65) = false := decide_eq_false (by omega)
   have d2b : decide ((65 : Int) ≤ c.toNat) = false := decide_eq_false (by omega)
   have d3a : decide ((c.toNat : Int) ≤ 90) = true := decide_eq_true (by omega)
   clear h1
   go_enter Tryz.func121, Tryz.ntmps121
   go_wp2_with fail
   go_ret
   exact ⟨rfl, rfl⟩
  ·
   rw [hc]
   clear hc
   have d0a : decide ((c.toNat : Int) ≥ 97) = false := decide_eq_false (by omega)
   have d0b : decide ((97 : Int) ≤ c.toNat) = false := decide_eq_false (by omega)
   have d1a : decide ((c.toNat : Int) ≤ 122) = true := decide_eq_true (by omega)
   have d2a : decide ((c.toNat : Int) ≥ 65) = true := decide_eq_true (by omega)
   have d2b : decide ((65 : Int) ≤ c.toNat) = true := decide_eq_true (by omega)
   have d3a : decide ((c.toNat : Int) ≤ 90) = false := decide_eq_false (by omega)
   clear h1 h2
   go_enter Tryz.func121, Tryz.ntmps121
   go_wp2_with fail
   go_ret
   exact ⟨rfl, rfl⟩
  ·
   rw [hc]
   clear hc
   have d0a : decide ((c.toNat : Int) ≥ 97) = true := decide_eq_true (by omega)
   have d0b : decide ((97 : Int) ≤ c.toNat) = true := decide_eq_true (by omega)
   have d1a : decide ((c.toNat : Int) ≤ 122) = false := decide_eq_false (by omega)
   have d2a : decide ((c.toNat : Int) ≥ 65) = true := decide_eq_true (by omega)
   have d2b : decide ((65 : Int) ≤ c.toNat) = true := decide_eq_true (by omega)
   have d3a : decide ((c.toNat : Int) ≤ 90) = false := decide_eq_false (by omega)
   clear h1
   go_enter Tryz.func121, Tryz.ntmps121
   go_wp2_with fail
   go_ret
   exact ⟨rfl, rfl⟩
theorem digit_r (w : World) (c : UInt8) :
    Calls Tryz.prog 137 #[.int .u8 (c.toNat : Nat)] w fun e w' => e = .returned (.bool (X.digit c)) ∧ w = w' := by
  rcases X.digit_cases c with ⟨hc, h1, h2⟩ | ⟨hc, h1⟩ | ⟨hc, h1⟩
  ·
   rw [hc]
   clear hc
   have d0a : decide ((c.toNat : Int) ≥ 48) = true := decide_eq_true (by omega)
   have d0b : decide ((48 : Int) ≤ c.toNat) = true := decide_eq_true (by omega)
   have d1a : decide ((c.toNat : Int) ≤ 57) = true := decide_eq_true (by omega)
   clear h1 h2
   go_enter Tryz.func137, Tryz.ntmps137
   go_wp2_with fail
   go_ret
   exact ⟨rfl, rfl⟩
  ·
   rw [hc]
   clear hc
   have d0a : decide ((c.toNat : Int) ≥ 48) = false := decide_eq_false (by omega)
   have d0b : decide ((48 : Int) ≤ c.toNat) = false := decide_eq_false (by omega)
   have d1a : decide ((c.toNat : Int) ≤ 57) = true := decide_eq_true (by omega)
   clear h1
   go_enter Tryz.func137, Tryz.ntmps137
   go_wp2_with fail
   go_ret
   exact ⟨rfl, rfl⟩
  ·
   rw [hc]
   clear hc
   have d0a : decide ((c.toNat : Int) ≥ 48) = true := decide_eq_true (by omega)
   have d0b : decide ((48 : Int) ≤ c.toNat) = true := decide_eq_true (by omega)
   have d1a : decide ((c.toNat : Int) ≤ 57) = false := decide_eq_false (by omega)
   clear h1
   go_enter Tryz.func137, Tryz.ntmps137
   go_wp2_with fail
   go_ret
   exact ⟨rfl, rfl⟩
theorem bytes_ext {S : ByteArray} {l : List UInt8} (h : S.data.toList = l) : S = ⟨l.toArray⟩ := by
 obtain ⟨⟨l'⟩⟩ := S
 have : l' = l := h
 rw [this]
theorem toList_beq {S : ByteArray} {l : List UInt8} (h : S.data.toList ≠ l) : (S.toList == l) = false := by
 rw [ByteArray.toList_eq]
 simpa using h
theorem X.word_cases (l : List UInt8) : (X.word l = true ∧ (l = [97, 110, 100] ∨ l = [111, 114] ∨ l = [110, 111, 116] ∨ l = [105, 109, 112, 108, 105, 101, 115] ∨ l = [105, 102, 102] ∨ l = [115, 111, 109, 101] ∨ l = [97, 108, 108] ∨ l = [116, 114, 117, 101] ∨ l = [102, 97, 108, 115, 101] ∨ l = [100, 105, 118, 105, 100, 101, 115])) ∨ (X.word l = false ∧ l ≠ [97, 110, 100] ∧ l ≠ [111, 114] ∧ l ≠ [110, 111, 116] ∧ l ≠ [105, 109, 112, 108, 105, 101, 115] ∧ l ≠ [105, 102, 102] ∧ l ≠ [115, 111, 109, 101] ∧ l ≠ [97, 108, 108] ∧ l ≠ [116, 114, 117, 101] ∧ l ≠ [102, 97, 108, 115, 101] ∧ l ≠ [100, 105, 118, 105, 100, 101, 115]) := by
 by_cases h : X.word l = true
 · refine .inl ⟨h, ?_⟩
   have h2 : l ∈ X.words := by simpa [X.word] using h
   simpa [X.words] using h2
 · have h2 : l ∉ X.words := by simpa [X.word] using h
   refine .inr ⟨by simpa using h, ?_⟩
   simpa [X.words] using h2
set_option maxRecDepth 100000 in
theorem word_x (w : World) (S : ByteArray) :
    Calls Tryz.prog 118 #[.string S] w fun e w' => e = .returned (.bool (X.word S.data.toList)) ∧ w = w' := by
  rcases X.word_cases S.data.toList with ⟨_, h | h | h | h | h | h | h | h | h | h⟩ | ⟨hw, h0, h1, h2, h3, h4, h5, h6, h7, h8, h9⟩
  · obtain rfl := bytes_ext h
    clear h
    go_enter Tryz.func118, Tryz.ntmps118
    go_wp2_with fail
    go_ret
    exact ⟨rfl, rfl⟩
  · obtain rfl := bytes_ext h
    clear h
    go_enter Tryz.func118, Tryz.ntmps118
    go_wp2_with fail
    go_ret
    exact ⟨rfl, rfl⟩
  · obtain rfl := bytes_ext h
    clear h
    go_enter Tryz.func118, Tryz.ntmps118
    go_wp2_with fail
    go_ret
    exact ⟨rfl, rfl⟩
  · obtain rfl := bytes_ext h
    clear h
    go_enter Tryz.func118, Tryz.ntmps118
    go_wp2_with fail
    go_ret
    exact ⟨rfl, rfl⟩
  · obtain rfl := bytes_ext h
    clear h
    go_enter Tryz.func118, Tryz.ntmps118
    go_wp2_with fail
    go_ret
    exact ⟨rfl, rfl⟩
  · obtain rfl := bytes_ext h
    clear h
    go_enter Tryz.func118, Tryz.ntmps118
    go_wp2_with fail
    go_ret
    exact ⟨rfl, rfl⟩
  · obtain rfl := bytes_ext h
    clear h
    go_enter Tryz.func118, Tryz.ntmps118
    go_wp2_with fail
    go_ret
    exact ⟨rfl, rfl⟩
  · obtain rfl := bytes_ext h
    clear h
    go_enter Tryz.func118, Tryz.ntmps118
    go_wp2_with fail
    go_ret
    exact ⟨rfl, rfl⟩
  · obtain rfl := bytes_ext h
    clear h
    go_enter Tryz.func118, Tryz.ntmps118
    go_wp2_with fail
    go_ret
    exact ⟨rfl, rfl⟩
  · obtain rfl := bytes_ext h
    clear h
    go_enter Tryz.func118, Tryz.ntmps118
    go_wp2_with fail
    go_ret
    exact ⟨rfl, rfl⟩
  ·
   rw [hw]
   clear hw
   replace h0 := toList_beq h0
   replace h1 := toList_beq h1
   replace h2 := toList_beq h2
   replace h3 := toList_beq h3
   replace h4 := toList_beq h4
   replace h5 := toList_beq h5
   replace h6 := toList_beq h6
   replace h7 := toList_beq h7
   replace h8 := toList_beq h8
   replace h9 := toList_beq h9
   go_enter Tryz.func118, Tryz.ntmps118
   go_wp2_with fail
   go_ret
   exact ⟨rfl, rfl⟩
set_option maxRecDepth 100000 in
theorem is_r (w : World) (S : ByteArray) :
    Calls Tryz.prog 122 #[.string S] w fun e w' => e = .returned (.bool (X.word S.data.toList)) ∧ w = w' := by
  rcases X.word_cases S.data.toList with ⟨_, h | h | h | h | h | h | h | h | h | h⟩ | ⟨hw, h0, h1, h2, h3, h4, h5, h6, h7, h8, h9⟩
  · obtain rfl := bytes_ext h
    clear h
    go_enter Tryz.func122, Tryz.ntmps122
    go_wp2_with fail
    go_ret
    exact ⟨rfl, rfl⟩
  · obtain rfl := bytes_ext h
    clear h
    go_enter Tryz.func122, Tryz.ntmps122
    go_wp2_with fail
    go_ret
    exact ⟨rfl, rfl⟩
  · obtain rfl := bytes_ext h
    clear h
    go_enter Tryz.func122, Tryz.ntmps122
    go_wp2_with fail
    go_ret
    exact ⟨rfl, rfl⟩
  · obtain rfl := bytes_ext h
    clear h
    go_enter Tryz.func122, Tryz.ntmps122
    go_wp2_with fail
    go_ret
    exact ⟨rfl, rfl⟩
  · obtain rfl := bytes_ext h
    clear h
    go_enter Tryz.func122, Tryz.ntmps122
    go_wp2_with fail
    go_ret
    exact ⟨rfl, rfl⟩
  · obtain rfl := bytes_ext h
    clear h
    go_enter Tryz.func122, Tryz.ntmps122
    go_wp2_with fail
    go_ret
    exact ⟨rfl, rfl⟩
  · obtain rfl := bytes_ext h
    clear h
    go_enter Tryz.func122, Tryz.ntmps122
    go_wp2_with fail
    go_ret
    exact ⟨rfl, rfl⟩
  · obtain rfl := bytes_ext h
    clear h
    go_enter Tryz.func122, Tryz.ntmps122
    go_wp2_with fail
    go_ret
    exact ⟨rfl, rfl⟩
  · obtain rfl := bytes_ext h
    clear h
    go_enter Tryz.func122, Tryz.ntmps122
    go_wp2_with fail
    go_ret
    exact ⟨rfl, rfl⟩
  · obtain rfl := bytes_ext h
    clear h
    go_enter Tryz.func122, Tryz.ntmps122
    go_wp2_with fail
    go_ret
    exact ⟨rfl, rfl⟩
  ·
   rw [hw]
   clear hw
   replace h0 := toList_beq h0
   replace h1 := toList_beq h1
   replace h2 := toList_beq h2
   replace h3 := toList_beq h3
   replace h4 := toList_beq h4
   replace h5 := toList_beq h5
   replace h6 := toList_beq h6
   replace h7 := toList_beq h7
   replace h8 := toList_beq h8
   replace h9 := toList_beq h9
   go_enter Tryz.func122, Tryz.ntmps122
   go_wp2_with fail
   go_ret
   exact ⟨rfl, rfl⟩
theorem X.row_cases (c : UInt8) : (X.rowc c = true ∧ X.letter c = true) ∨ (X.rowc c = true ∧ X.letter c = false ∧ X.digit c = true) ∨ (X.rowc c = true ∧ X.letter c = false ∧ X.digit c = false ∧ ((c.toNat : Int) == 95) = true) ∨ (X.rowc c = false ∧ X.letter c = false ∧ X.digit c = false ∧ ((c.toNat : Int) == 95) = false) := by
 unfold X.rowc
 cases X.letter c
 · cases X.digit c
   · by_cases h : c.toNat = 95
     · exact .inr (.inr (.inl ⟨by simp [h], rfl, rfl, by simp [h]⟩))
     · exact .inr (.inr (.inr ⟨by simp [h], rfl, rfl, by simp; omega⟩))
   · exact .inr (.inl ⟨rfl, rfl, rfl⟩)
 · exact .inl ⟨rfl, rfl⟩
set_option maxRecDepth 100000 in
theorem row_x (w : World) (S : ByteArray) (hS : S.size ≤ 9223372036854775806) :
    Calls Tryz.prog 117 #[.string S] w fun e w' => e = .returned (.int .i64 (X.rowLen S.data.toList : Nat)) ∧ w = w' := by
  go_enter Tryz.func117, Tryz.ntmps117
  go_wp2_with fail
  go_loopw [3] (fun v3 wr => ∃ k : Nat, k ≤ S.size ∧ v3 = .int .i64 (k : Nat) ∧ (∀ j, j < k → X.rowc (S.data.toList.getD j 0) = true) ∧ w = wr) (fun v3 _ => S.size - (intOf v3).toNat)
  case atStart => exact ⟨0, by omega, rfl, fun j hj => by omega, rfl⟩
  case round =>
   obtain ⟨k, hk, rfl, hrow, rfl⟩ := hrel
   have HROW := Lib.hid hrow
   clear hrow
   by_cases hkn : k < S.size
   ·
    have hb := getD_byte hkn
    have HB := Lib.hid hb
    clear hb
    have d0 : decide ((k : Int) < S.size) = true := decide_eq_true (by omega)
    have hnext : X.rowc (S[k]'hkn) = true → ∀ j, j < k + 1 → X.rowc (S.data.toList.getD j 0) = true := fun h j hj => by
     rcases Nat.lt_or_ge j k with h1 | h1
     · exact HROW.out j h1
     · obtain rfl : j = k := by omega
       rw [HB.out]; exact h
    have hstop : X.rowc (S[k]'hkn) = false → X.rowLen S.data.toList = k := fun h =>
     X.rowLen_eq (by rw [size_list]; exact hk) HROW.out (.inr (by rw [HB.out]; exact h))
    have HN := Lib.hid hnext
    have HST := Lib.hid hstop
    clear hnext hstop
    rcases X.row_cases (S[k]'hkn) with ⟨hr, hl⟩ | ⟨hr, hl, hd⟩ | ⟨hr, hl, hd, hu⟩ | ⟨hr, hl, hd, hu⟩
    all_goals
     have HR := Lib.hid hr
     clear hr
     go_wp2_with (first
      | (go_at_call 116; refine (letter_x _ _).mono ?_; rintro e w2 ⟨rfl, rfl⟩; rw [hl])
      | (go_at_call 148; refine (digit_x _ _).mono ?_; rintro e w2 ⟨rfl, rfl⟩; rw [hd]))
    iterate 3
     · go_roundw
       case rel => exact ⟨k + 1, by omega, by go_num, HN.out HR.out, by trivial⟩
       case measure => simp [intOf]; omega
    · go_ret
      exact ⟨by rw [HST.out HR.out]; rfl, rfl⟩
   · obtain rfl : k = S.size := by omega
     have hstop : X.rowLen S.data.toList = S.size := X.rowLen_eq (by rw [size_list]; exact Nat.le_refl _) HROW.out (.inl (by rw [size_list]))
     have HST := Lib.hid hstop
     clear hstop
     go_wp2_with fail
     go_ret
     exact ⟨by rw [HST.out]; rfl, rfl⟩
theorem X.name_eq {S : ByteArray} (h : 0 < S.size) : X.name S.data.toList = (X.letter (S[0]'h) && (X.rowLen S.data.toList == S.size && (decide (S.size ≤ 24) && !X.word S.data.toList))) := by
 unfold X.name
 have h1 : S.data.toList ≠ [] := fun e => by have := size_list S; rw [e] at this; simp only [List.length_nil] at this; omega
 have h2 : S.data.toList.isEmpty = false := by cases hh : S.data.toList with | nil => exact absurd hh h1 | cons _ _ => rfl
 have h3 : S.data.toList.headD 0 = S[0]'h := by have := getD_byte h; cases hh : S.data.toList with | nil => exact absurd hh h1 | cons c l => rw [hh] at this; simpa [List.getD] using this
 rw [h2, h3, size_list]; rfl
set_option maxRecDepth 100000 in
set_option maxHeartbeats 1600000 in
theorem isname_x (w : World) (S : ByteArray) (hS : S.size ≤ 4611686018427387904) :
    Calls Tryz.prog 82 #[.string S] w fun e w' => e = .returned (.bool (X.name S.data.toList)) ∧ w = w' := by
  rcases Nat.eq_zero_or_pos S.size with h0 | h0
  · have e : S.data.toList = [] := List.eq_nil_of_length_eq_zero (by rw [size_list]; exact h0)
    obtain rfl := bytes_ext e
    go_enter Tryz.func82, Tryz.ntmps82
    go_wp2_with fail
    go_ret
    exact ⟨rfl, rfl⟩
  ·
   rw [X.name_eq h0]
   obtain ⟨hne, hne2⟩ := not_empty h0
   have h0i : (0 : Int) < S.size := by omega
   cases hl : X.letter (S[0]'h0)
   · go_enter Tryz.func82, Tryz.ntmps82
     go_wp2_with (go_at_call 116; refine (letter_x _ _).mono ?_; rintro e w2 ⟨rfl, rfl⟩; rw [hl])
     go_ret
     exact ⟨rfl, rfl⟩
   ·
    obtain ⟨R, hR⟩ : ∃ R, X.rowLen S.data.toList = R := ⟨_, rfl⟩
    by_cases hr : R = S.size
    ·
     subst hr
     obtain ⟨b1, hb1⟩ : ∃ b, decide ((S.size : Int) ≤ 24) = b := ⟨_, rfl⟩
     have hb2 : decide (S.size ≤ 24) = b1 := by rw [← hb1]; exact decide_eq_decide.2 (by omega)
     obtain ⟨b2, hw⟩ : ∃ b, X.word S.data.toList = b := ⟨_, rfl⟩
     rw [hR, hb2, hw]
     clear hb2
     cases b1
     · go_enter Tryz.func82, Tryz.ntmps82
       go_wp2_with (first
        | (go_at_call 116; refine (letter_x _ _).mono ?_; rintro e w2 ⟨rfl, rfl⟩; rw [hl])
        | (go_at_call 117; refine (row_x _ _ (by omega)).mono ?_; rintro e w2 ⟨rfl, rfl⟩; rw [hR]))
       go_ret
       exact ⟨by first | rfl | simp, rfl⟩
     · cases b2
       all_goals
        go_enter Tryz.func82, Tryz.ntmps82
        go_wp2_with (first
         | (go_at_call 116; refine (letter_x _ _).mono ?_; rintro e w2 ⟨rfl, rfl⟩; rw [hl])
         | (go_at_call 117; refine (row_x _ _ (by omega)).mono ?_; rintro e w2 ⟨rfl, rfl⟩; rw [hR])
         | (go_at_call 118; refine (word_x _ _).mono ?_; rintro e w2 ⟨rfl, rfl⟩; rw [hw]))
        go_ret
        exact ⟨by first | rfl | simp, rfl⟩
    ·
     have hri : ((R : Int) == S.size) = false := by simp; omega
     have hrn : (R == S.size) = false := by simpa using hr
     rw [hR, hrn]
     clear hr hrn
     go_enter Tryz.func82, Tryz.ntmps82
     go_wp2_with (first
      | (go_at_call 116; refine (letter_x _ _).mono ?_; rintro e w2 ⟨rfl, rfl⟩; rw [hl])
      | (go_at_call 117; refine (row_x _ _ (by omega)).mono ?_; rintro e w2 ⟨rfl, rfl⟩; rw [hR]))
     go_ret
     exact ⟨rfl, rfl⟩
set_option maxRecDepth 100000 in
theorem rowc_r (w : World) (c : UInt8) :
    Calls Tryz.prog 101 #[.int .u8 (c.toNat : Nat)] w fun e w' => e = .returned (.bool (X.rowc c)) ∧ w = w' := by
  rcases X.row_cases c with ⟨hr, hl⟩ | ⟨hr, hl, hd⟩ | ⟨hr, hl, hd, hu⟩ | ⟨hr, hl, hd, hu⟩
  ·
   cases hd : X.digit c
   all_goals
    rw [hr]
    clear hr
    go_enter Tryz.func101, Tryz.ntmps101
    go_wp2_with (first
     | (go_at_call 121; refine (letter_r _ _).mono ?_; rintro e w2 ⟨rfl, rfl⟩; rw [hl])
     | (go_at_call 137; refine (digit_r _ _).mono ?_; rintro e w2 ⟨rfl, rfl⟩; rw [hd]))
    go_ret
    exact ⟨rfl, rfl⟩
  all_goals
   rw [hr]
   clear hr
   go_enter Tryz.func101, Tryz.ntmps101
   go_wp2_with (first
    | (go_at_call 121; refine (letter_r _ _).mono ?_; rintro e w2 ⟨rfl, rfl⟩; rw [hl])
    | (go_at_call 137; refine (digit_r _ _).mono ?_; rintro e w2 ⟨rfl, rfl⟩; rw [hd]))
   go_ret
   exact ⟨rfl, rfl⟩
set_option maxRecDepth 100000 in
set_option maxHeartbeats 1600000 in
theorem isname_r (w : World) (S : ByteArray) (hS : S.size ≤ 4611686018427387904) :
    Calls Tryz.prog 88 #[.string S] w fun e w' => e = .returned (.bool (X.name S.data.toList)) ∧ w = w' := by
  rcases Nat.eq_zero_or_pos S.size with h0 | h0
  · have e : S.data.toList = [] := List.eq_nil_of_length_eq_zero (by rw [size_list]; exact h0)
    obtain rfl := bytes_ext e
    go_enter Tryz.func88, Tryz.ntmps88
    go_wp2_with fail
    go_ret
    exact ⟨rfl, rfl⟩
  ·
   rw [X.name_eq h0]
   obtain ⟨hne, hne2⟩ := not_empty h0
   have h0i : (0 : Int) < S.size := by omega
   by_cases h24 : S.size ≤ 24
   ·
    have d1 : decide ((S.size : Int) > 24) = false := decide_eq_false (by omega)
    have d2 : decide (24 < (S.size : Int)) = false := decide_eq_false (by omega)
    have d3 : decide (S.size ≤ 24) = true := decide_eq_true h24
    rw [d3]
    obtain ⟨G, hG⟩ : ∃ G, (X.letter (S[0]'h0) && (X.rowLen S.data.toList == S.size && (true && !X.word S.data.toList))) = G := ⟨_, rfl⟩
    rw [hG]
    have HG := Lib.hid hG
    clear hG d3
    go_enter Tryz.func88, Tryz.ntmps88
    go_wp2_with fail
    go_loopw [3] (fun v3 wr => ∃ k : Nat, k ≤ S.size ∧ v3 = .int .i64 (k : Nat) ∧ (∀ j, j < k → X.rowc (S.data.toList.getD j 0) = true) ∧ w = wr) (fun v3 _ => S.size - (intOf v3).toNat)
    case atStart => exact ⟨0, by omega, rfl, fun j hj => by omega, rfl⟩
    case round =>
     obtain ⟨k, hk, rfl, hrow, rfl⟩ := hrel
     have HROW := Lib.hid hrow
     clear hrow
     by_cases hkn : k < S.size
     ·
      have hb := getD_byte hkn
      have HB := Lib.hid hb
      clear hb
      have d0 : decide ((k : Int) < S.size) = true := decide_eq_true (by omega)
      cases hr : X.rowc (S[k]'hkn)
      · have hstop : X.rowLen S.data.toList = k := X.rowLen_eq (by rw [size_list]; exact hk) HROW.out (.inr (by rw [HB.out]; exact hr))
        have hg : G = false := by rw [← HG.out, hstop, show (k == S.size) = false by simp; omega]; simp
        have HGF := Lib.hid hg
        clear hstop hg
        go_wp2_with (go_at_call 101; refine (rowc_r _ _).mono ?_; rintro e w2 ⟨rfl, rfl⟩; rw [hr])
        go_ret
        exact ⟨by rw [HGF.out]; rfl, rfl⟩
      ·
       have hnext : ∀ j, j < k + 1 → X.rowc (S.data.toList.getD j 0) = true := fun j hj => by
        rcases Nat.lt_or_ge j k with h1 | h1
        · exact HROW.out j h1
        · obtain rfl : j = k := by omega
          rw [HB.out]; exact hr
       have HN := Lib.hid hnext
       clear hnext
       go_wp2_with (go_at_call 101; refine (rowc_r _ _).mono ?_; rintro e w2 ⟨rfl, rfl⟩; rw [hr])
       go_roundw
       case rel => exact ⟨k + 1, by omega, by go_num, HN.out, by trivial⟩
       case measure => simp [intOf]; omega
     ·
      obtain rfl : k = S.size := by omega
      have hstop : X.rowLen S.data.toList = S.size := X.rowLen_eq (by rw [size_list]; exact Nat.le_refl _) HROW.out (.inl (by rw [size_list]))
      have hg : G = (X.letter (S[0]'h0) && !X.word S.data.toList) := by rw [← HG.out, hstop]; simp
      have HGF := Lib.hid hg
      clear hstop hg
      obtain ⟨b1, hl⟩ : ∃ b, X.letter (S[0]'h0) = b := ⟨_, rfl⟩
      obtain ⟨b2, hw⟩ : ∃ b, X.word S.data.toList = b := ⟨_, rfl⟩
      have HL := Lib.hid hl
      have HW := Lib.hid hw
      cases b1 <;> cases b2
      all_goals
       go_wp2_with (first
        | (go_at_call 121; refine (letter_r _ _).mono ?_; rintro e w2 ⟨rfl, rfl⟩; rw [hl])
        | (go_at_call 122; refine (is_r _ _).mono ?_; rintro e w2 ⟨rfl, rfl⟩; rw [hw]))
       go_ret
       exact ⟨by rw [HGF.out, HL.out, HW.out]; rfl, rfl⟩
   ·
    have d1 : decide ((S.size : Int) > 24) = true := decide_eq_true (by omega)
    have d2 : decide (24 < (S.size : Int)) = true := decide_eq_true (by omega)
    have hg : (X.letter (S[0]'h0) && (X.rowLen S.data.toList == S.size && (decide (S.size ≤ 24) && !X.word S.data.toList))) = false := by rw [decide_eq_false h24]; simp
    rw [hg]
    clear hg
    go_enter Tryz.func88, Tryz.ntmps88
    go_wp2_with fail
    go_ret
    exact ⟨rfl, rfl⟩
end
section
open Go.RowKit
theorem below_on {wk w w' : World} (h : Below wk.heap.size wk w) (hb : Below w.heap.size w w') : Below wk.heap.size wk w' := h.trans (hb.mono h.size)
theorem below_alloc1 (w : World) (o : Obj) : Below w.heap.size w (w.alloc o) := (Below.refl _ _).alloc (Nat.le_refl _) o
def Blk (w : World) (b : Nat) (t : TypeId) (cs : Array Value) : Prop := w.heap[b]? = some (.cells cs t (0, 0))
section
variable {w w' : World} {b b' : Nat} {t : TypeId} {cs : Array Value} {a0 a1 a2 a3 a4 : Value}
theorem Blk.new (w : World) (t : TypeId) (cs : Array Value) : Blk (w.alloc (.cells cs t)) w.heap.size t cs := heap_alloc_new w _
theorem Blk.lt (h : Blk w b t cs) : b < w.heap.size := (Array.getElem?_eq_some_iff.1 h).1
theorem Blk.below (h : Blk w b t cs) (hb : Below w.heap.size w w') : Blk w' b t cs := (hb.block b h.lt).trans h
theorem Blk.keep {B : Nat} (h : Blk w b t cs) (hb : Below B w w') (hlt : b < B) : Blk w' b t cs := (hb.block b hlt).trans h
theorem Blk.free (h : Blk w b t cs) (i : Nat) : w.frozen? ⟨b, i, none⟩ = false := frozen_of_row _ _ _ _ _ h
theorem Blk.cell (h : Blk w b t cs) (i : Nat) : w.cell? ⟨b, i, none⟩ = cs[i]? := cell_of_row _ _ _ _ _ _ h
theorem Blk.far (h : Blk w b t cs) (hne : b ≠ b') (i : Nat) (u : Value) : Blk (w.setCell ⟨b', i, none⟩ u) b t cs := (Below.heap_setCell w ⟨b', i, none⟩ u b hne).trans h
theorem Blk.put (h : Blk w b t cs) (i : Nat) (u : Value) : Blk (w.setCell ⟨b, i, none⟩ u) b t (cs.setIfInBounds i u) := heap_setCell_same _ _ i _ _ u h
theorem Blk.facts (h : Blk w b t #[a0, a1, a2, a3, a4]) : (w.frozen? ⟨b, 0, none⟩ = false ∧ w.frozen? ⟨b, 1, none⟩ = false ∧ w.frozen? ⟨b, 2, none⟩ = false ∧ w.frozen? ⟨b, 3, none⟩ = false ∧ w.frozen? ⟨b, 4, none⟩ = false) ∧
    w.cell? ⟨b, 0, none⟩ = some a0 ∧ w.cell? ⟨b, 1, none⟩ = some a1 ∧ w.cell? ⟨b, 2, none⟩ = some a2 ∧ w.cell? ⟨b, 3, none⟩ = some a3 ∧ w.cell? ⟨b, 4, none⟩ = some a4 :=
  ⟨⟨h.free _, h.free _, h.free _, h.free _, h.free _⟩, h.cell _, h.cell _, h.cell _, h.cell _, h.cell _⟩
theorem Blk.set5 (h : Blk w b t #[a0, a1, a2, a3, a4]) (u0 u1 u2 u3 u4 : Value) : Blk (((((w.setCell ⟨b, 0, none⟩ u0).setCell ⟨b, 1, none⟩ u1).setCell ⟨b, 2, none⟩ u2).setCell ⟨b, 3, none⟩ u3).setCell ⟨b, 4, none⟩ u4) b t #[u0, u1, u2, u3, u4] :=
 ((((h.put 0 u0).put 1 u1).put 2 u2).put 3 u3).put 4 u4
theorem Blk.facts2 (h : Blk w b t #[a0, a1]) : (w.frozen? ⟨b, 0, none⟩ = false ∧ w.frozen? ⟨b, 1, none⟩ = false) ∧ w.cell? ⟨b, 0, none⟩ = some a0 ∧ w.cell? ⟨b, 1, none⟩ = some a1 :=
 ⟨⟨h.free _, h.free _⟩, h.cell _, h.cell _⟩
theorem Blk.set2 (h : Blk w b t #[a0, a1]) (u0 u1 : Value) : Blk ((w.setCell ⟨b, 0, none⟩ u0).setCell ⟨b, 1, none⟩ u1) b t #[u0, u1] := (h.put 0 u0).put 1 u1
end
theorem below5 {B b : Nat} {w w' : World} (h : Below B w w') (hb : B ≤ b) (u0 u1 u2 u3 u4 : Value) : Below B w (((((w'.setCell ⟨b, 0, none⟩ u0).setCell ⟨b, 1, none⟩ u1).setCell ⟨b, 2, none⟩ u2).setCell ⟨b, 3, none⟩ u3).setCell ⟨b, 4, none⟩ u4) :=
 ((((h.setCell hb _).setCell hb _).setCell hb _).setCell hb _).setCell hb _
theorem Own.blk {w : World} {base g n c : Nat} {l : List Nat} (h : Own w base g n c l) : ∃ cur, w.heap[g]? = some (.cells cur 69 (0, 0)) := by
 rcases h.own.2 with ⟨e, _⟩ | ⟨g', cap, cur, e, _, hg, _⟩
 · cases e
 · injection e with e _ _; injection e with e; injection e with e _ _
   subst e
   exact ⟨cur, hg⟩
theorem Own.off {w : World} {base g n c b : Nat} {l : List Nat} {t : TypeId} {cs : Array Value} (h : Own w base g n c l) (hp : Blk w b t cs) (ht : t ≠ 69) : g ≠ b := fun e => by
 subst e
 obtain ⟨cur, hg⟩ := h.blk
 have e2 := hg.symm.trans hp
 injection e2 with e2
 injection e2 with _ e2 _
 exact ht e2.symm
theorem sizeTok : (Tryz.prog.info? 98).map (·.size) = some 5 := by kernel_rfl
theorem sizeMis : (Tryz.prog.info? 31).map (·.size) = some 2 := by kernel_rfl
theorem results_tok {fn : Func} {p u : Tmp} (h : fn.results = #[.cell p 98, .tmp u]) (tmps : Array Value) (w : World) (g : Nat) (t : TypeId) (a0 a1 a2 a3 a4 : Value)
    (hp : tmps.getD p undef = .pointer (some ⟨g, 0, none⟩)) (hg : Blk w g t #[a0, a1, a2, a3, a4]) :
    (results fn tmps).run Tryz.prog w = .ok (.tuple #[.agg #[a0, a1, a2, a3, a4], tmps.getD u undef]) w := by
  have hp' : tmps[p]?.getD undef = .pointer (some ⟨g, 0, none⟩) := by simpa using hp
  simp [results, h, hp', asAddr, run_loadVar_row w g _ 98 _ _ _ hg Tryz.underlying98 rfl sizeTok]
theorem clone_s (w : World) (S : ByteArray) (hS : S.size ≤ 281474976710656) :
    Calls Tryz.prog 142 #[.string S] w fun e w' => e = .returned (.string S) ∧ Below w.heap.size w w' := by
  go_enter Tryz.func142, Tryz.ntmps142
  go_wp2_with (go_at_call 160; refine (Tryz.stringslite_Clone _ _ hS).mono ?_; rintro e w2 ⟨rfl, hb⟩)
  go_ret
  exact ⟨rfl, hb⟩
def MagOf (base : Nat) (w : World) (m : Value) (k : Nat) (l : List UInt8) : Prop := if k = 1 then ∃ g n c, m = .slice (some ⟨g, 0, none⟩) n c ∧ Own w base g n c (N.ofN (N.val l)) else m = .slice none 0 0
theorem MagOf.other {base : Nat} {w : World} {k : Nat} {l : List UInt8} (h : k ≠ 1) : MagOf base w (.slice none 0 0) k l := by unfold MagOf; rw [if_neg h]
theorem MagOf.num {base : Nat} {w : World} {g n c : Nat} {l : List UInt8} (h : Own w base g n c (N.ofN (N.val l))) : MagOf base w (.slice (some ⟨g, 0, none⟩) n c) 1 l := by unfold MagOf; rw [if_pos rfl]; exact ⟨g, n, c, rfl, h⟩
theorem MagOf.below {base : Nat} {w w' : World} {m : Value} {k : Nat} {l : List UInt8} (h : MagOf base w m k l) (hb : Below w.heap.size w w') : MagOf base w' m k l := by
 unfold MagOf at h ⊢
 split
 · rename_i hk
   rw [if_pos hk] at h
   obtain ⟨g, n, c, e, ho⟩ := h
   exact ⟨g, n, c, e, ho.below hb⟩
 · rename_i hk
   rw [if_neg hk] at h
   exact h
theorem MagOf.le {base base' : Nat} {w : World} {m : Value} {k : Nat} {l : List UInt8} (h : MagOf base w m k l) (hb : base' ≤ base) : MagOf base' w m k l := by
 unfold MagOf at h ⊢
 split
 · rename_i hk
   rw [if_pos hk] at h
   obtain ⟨g, n, c, e, ho⟩ := h
   exact ⟨g, n, c, e, ho.mono hb⟩
 · rename_i hk
   rw [if_neg hk] at h
   exact h
theorem MagOf.far {base b : Nat} {w : World} {m : Value} {k : Nat} {l : List UInt8} {t : TypeId} {cs : Array Value} (h : MagOf base w m k l) (hp : Blk w b t cs) (ht : t ≠ 69) (i : Nat) (u : Value) : MagOf base (w.setCell ⟨b, i, none⟩ u) m k l := by
 unfold MagOf at h ⊢
 split
 · rename_i hk
   rw [if_pos hk] at h
   obtain ⟨g, n, c, e, ho⟩ := h
   exact ⟨g, n, c, e, ho.far (ho.off hp ht) i u⟩
 · rename_i hk
   rw [if_neg hk] at h
   exact h
theorem MagOf.five {base b : Nat} {w : World} {m : Value} {k : Nat} {l : List UInt8} {t : TypeId} {cs : Array Value} (h : MagOf base w m k l) (hp : Blk w b t cs) (ht : t ≠ 69) (u0 u1 u2 u3 u4 : Value) :
    MagOf base (((((w.setCell ⟨b, 0, none⟩ u0).setCell ⟨b, 1, none⟩ u1).setCell ⟨b, 2, none⟩ u2).setCell ⟨b, 3, none⟩ u3).setCell ⟨b, 4, none⟩ u4) m k l :=
  ((((h.far hp ht 0 u0).far (hp.put 0 u0) ht 1 u1).far ((hp.put 0 u0).put 1 u1) ht 2 u2).far (((hp.put 0 u0).put 1 u1).put 2 u2) ht 3 u3).far ((((hp.put 0 u0).put 1 u1).put 2 u2).put 3 u3) ht 4 u4
set_option maxRecDepth 100000 in
set_option maxHeartbeats 4000000 in
theorem rowed_x (w : World) (S : ByteArray) (h0 : 0 < S.size) (hS : S.size ≤ 4096) {r1 r2 : Nat} (hR : X.rowed S.data.toList = (r1, r2)) :
    Calls Tryz.prog 141 #[.string S] w fun e w' => ∃ T A n c, e = .returned (.tuple #[.agg #[.int .i64 (r2 : Nat), .string T, .bool false, .slice A n c, .int .i64 0], .int .i64 (r1 : Nat)]) ∧ (r1 = 0 → T = S ∧ MagOf w.heap.size w' (.slice A n c) r2 S.data.toList) ∧ Below w.heap.size w w' := by
  have hhd : S.data.toList.headD 0 = S[0]'h0 := by
   have h1 := getD_byte h0
   cases hh : S.data.toList with
   | nil => have := size_list S; rw [hh] at this; simp only [List.length_nil] at this; omega
   | cons c l => rw [hh] at h1; simpa [List.getD] using h1
  have h0i : (0 : Int) < S.size := by omega
  have p2 := Blk.new w 98 #[.int .i64 0, .string ⟨#[]⟩, .bool false, .slice none 0 0, .int .i64 0]
  obtain ⟨W, hW, hbW⟩ : ∃ W : World, W = w.alloc (.cells #[.int .i64 0, .string ⟨#[]⟩, .bool false, .slice none 0 0, .int .i64 0] 98) ∧ Below w.heap.size w W := ⟨_, rfl, below_alloc1 _ _⟩
  rw [← hW] at p2
  have HW := Lib.hid hW
  clear hW
  have HR := Lib.hid hR
  clear hR
  go_enter Tryz.func141, Tryz.ntmps141
  go_upto_region 1 with (fail)
  rw [← HW.out]
  go_upto_region 3 with (go_at_call 142; refine (clone_s _ S (by omega)).mono ?_; rintro e w1 ⟨rfl, hb1⟩)
  have p4 := Blk.new w1 98 #[.int .i64 0, .string S, .bool false, .slice none 0 0, .int .i64 0]
  obtain ⟨W2, hW2, hb2⟩ : ∃ W2 : World, W2 = w1.alloc (.cells #[.int .i64 0, .string S, .bool false, .slice none 0 0, .int .i64 0] 98) ∧ Below w1.heap.size w1 W2 := ⟨_, rfl, below_alloc1 _ _⟩
  rw [← hW2] at p4 ⊢
  obtain ⟨b4, hb4⟩ : ∃ b, b = w1.heap.size := ⟨_, rfl⟩
  have hlt : w.heap.size < b4 := by have h1 := hb1.size; have h2 := p2.lt; omega
  rw [← hb4] at p4 ⊢
  replace p2 := (p2.below hb1).below hb2
  have hbw := below_on (below_on hbW hb1) hb2
  clear hW2 hb4 hb1 hb2 hbW HW
  cases hd : X.digit (S[0]'h0)
  ·
   obtain ⟨⟨f20, f21, f22, f23, f24⟩, c20, c21, c22, c23, c24⟩ := p2.facts
   obtain ⟨⟨f40, f41, f42, f43, f44⟩, c40, c41, c42, c43, c44⟩ := p4.facts
   cases hw : X.word S.data.toList
   ·
    cases hn : X.name S.data.toList
    ·
     have e1 : X.rowed S.data.toList = (30, 0) := by unfold X.rowed; rw [hhd, hd, hw, hn]; rfl
     have E1 := Lib.hid e1
     clear e1 hhd
     go_wp2_with (first
      | (go_at_call 148; refine (digit_x _ _).mono ?_; rintro e w3 ⟨rfl, rfl⟩; rw [hd])
      | (go_at_call 118; refine (word_x _ _).mono ?_; rintro e w3 ⟨rfl, rfl⟩; rw [hw])
      | (go_at_call 82; refine (isname_x _ _ (by omega)).mono ?_; rintro e w3 ⟨rfl, rfl⟩; rw [hn]))
     refine bodyPost_ret (results_tok rfl _ _ _ _ _ _ _ _ _ rfl (p2.set5 _ _ _ _ _)) rfl ?_
     have e1 := E1.out
     have e2 := HR.out
     rw [e1] at e2
     injection e2 with e2 e3
     subst e2; subst e3
     exact ⟨_, _, _, _, rfl, (fun h => by cases h), below5 (hbw) (Nat.le_refl _) _ _ _ _ _⟩
    ·
     have e1 : X.rowed S.data.toList = (0, 2) := by unfold X.rowed; rw [hhd, hd, hw, hn]; rfl
     have E1 := Lib.hid e1
     clear e1 hhd
     go_wp2_with (first
      | (go_at_call 148; refine (digit_x _ _).mono ?_; rintro e w3 ⟨rfl, rfl⟩; rw [hd])
      | (go_at_call 118; refine (word_x _ _).mono ?_; rintro e w3 ⟨rfl, rfl⟩; rw [hw])
      | (go_at_call 82; refine (isname_x _ _ (by omega)).mono ?_; rintro e w3 ⟨rfl, rfl⟩; rw [hn]))
     refine bodyPost_ret (results_tok rfl _ _ _ _ _ _ _ _ _ rfl ((p2.far (by omega) 0 _).set5 _ _ _ _ _)) rfl ?_
     have e1 := E1.out
     have e2 := HR.out
     rw [e1] at e2
     injection e2 with e2 e3
     subst e2; subst e3
     exact ⟨_, _, _, _, rfl, fun _ => ⟨rfl, MagOf.other (by decide)⟩, below5 (hbw.setCell (by show w.heap.size ≤ b4; omega) _) (Nat.le_refl _) _ _ _ _ _⟩
   ·
    have e1 : X.rowed S.data.toList = (0, 3) := by unfold X.rowed; rw [hhd, hd, hw]; rfl
    have E1 := Lib.hid e1
    clear e1 hhd
    go_wp2_with (first
     | (go_at_call 148; refine (digit_x _ _).mono ?_; rintro e w3 ⟨rfl, rfl⟩; rw [hd])
     | (go_at_call 118; refine (word_x _ _).mono ?_; rintro e w3 ⟨rfl, rfl⟩; rw [hw])
     | (go_at_call 82; refine (isname_x _ _ (by omega)).mono ?_; rintro e w3 ⟨rfl, rfl⟩; rw [hn]))
    refine bodyPost_ret (results_tok rfl _ _ _ _ _ _ _ _ _ rfl ((p2.far (by omega) 0 _).set5 _ _ _ _ _)) rfl ?_
    have e1 := E1.out
    have e2 := HR.out
    rw [e1] at e2
    injection e2 with e2 e3
    subst e2; subst e3
    exact ⟨_, _, _, _, rfl, fun _ => ⟨rfl, MagOf.other (by decide)⟩, below5 (hbw.setCell (by show w.heap.size ≤ b4; omega) _) (Nat.le_refl _) _ _ _ _ _⟩
  ·
   by_cases hok : N.okTxt S.data.toList
   ·
    have e1 : X.rowed S.data.toList = (0, 1) := by unfold X.rowed; rw [hhd, hd, if_pos rfl, if_pos hok]
    have E1 := Lib.hid e1
    clear e1 hhd
    go_wp2_with (first
     | (go_at_call 148; refine (digit_x _ _).mono ?_; rintro e w3 ⟨rfl, rfl⟩; rw [hd])
     | (go_at_call 159; refine (parse_ok _ S (by omega) hok).mono ?_; rintro e w3 ⟨g, n', c', rfl, hown, hb3⟩; replace hown := hown.mono hbw.size; have p2' := p2.below hb3; have p4' := p4.below hb3; replace hbw := below_on hbw hb3; obtain ⟨⟨f20, f21, f22, f23, f24⟩, c20, c21, c22, c23, c24⟩ := p2'.facts; obtain ⟨⟨f40, f41, f42, f43, f44⟩, c40, c41, c42, c43, c44⟩ := p4'.facts))
    have hg4 := hown.off p4' (by decide)
    have hg2 := hown.off p2' (by decide)
    refine bodyPost_ret (results_tok rfl _ _ _ _ _ _ _ _ _ rfl ((((p2'.far (by omega) 0 _).far (by omega) 2 _).far (by omega) 3 _).set5 _ _ _ _ _)) rfl ?_
    have e1 := E1.out
    have e2 := HR.out
    rw [e1] at e2
    injection e2 with e2 e3
    subst e2; subst e3
    exact ⟨_, _, _, _, rfl, (fun _ => ⟨rfl, MagOf.num (((((((((hown.far hg4 0 _).far hg4 2 _).far hg4 3 _).far hg2 0 _).far hg2 1 _).far hg2 2 _).far hg2 3 _).far hg2 4 _))⟩), below5 (((hbw.setCell (by show w.heap.size ≤ b4; omega) _).setCell (by show w.heap.size ≤ b4; omega) _).setCell (by show w.heap.size ≤ b4; omega) _) (Nat.le_refl _) _ _ _ _ _⟩
   ·
    have e1 : X.rowed S.data.toList = (12, 0) := by unfold X.rowed; rw [hhd, hd, if_pos rfl, if_neg hok]
    have E1 := Lib.hid e1
    clear e1 hhd
    go_wp2_with (first
     | (go_at_call 148; refine (digit_x _ _).mono ?_; rintro e w3 ⟨rfl, rfl⟩; rw [hd])
     | (go_at_call 159; refine (parse_bad _ S (by omega) hok).mono ?_; rintro e w3 ⟨rfl, hb3⟩; have p2' := p2.below hb3; replace hbw := below_on hbw hb3; obtain ⟨⟨f20, f21, f22, f23, f24⟩, c20, c21, c22, c23, c24⟩ := p2'.facts))
    refine bodyPost_ret (results_tok rfl _ _ _ _ _ _ _ _ _ rfl (p2'.set5 _ _ _ _ _)) rfl ?_
    have e1 := E1.out
    have e2 := HR.out
    rw [e1] at e2
    injection e2 with e2 e3
    subst e2; subst e3
    exact ⟨_, _, _, _, rfl, (fun h => by cases h), below5 (hbw) (Nat.le_refl _) _ _ _ _ _⟩
theorem idx_mem (l : List UInt8) (c : UInt8) : (0 ≤ Lib.indexByte l c) ↔ c ∈ l := by
 induction l with
 | nil => simp [Lib.indexByte]
 | cons b l ih =>
  unfold Lib.indexByte
  by_cases h : b = c
  · subst h; simp
  ·
   have h1 : (b == c) = false := by simpa using h
   have h2 := Lib.indexByte_ge l c
   rw [h1]
   simp only [Bool.false_eq_true, if_false, List.mem_cons]
   by_cases h3 : Lib.indexByte l c = -1
   · rw [h3]; rw [h3] at ih; simp; simp at ih; exact ⟨fun e => h e.symm, ih⟩
   · rw [if_neg (by simpa using h3)]
     exact ⟨fun _ => .inr (ih.1 (by omega)), fun h4 => by rcases h4 with h4 | h4; exact absurd h4.symm h; have := ih.2 h4; omega⟩
theorem index_s (w : World) (S : ByteArray) (c : UInt8) :
    Calls Tryz.prog 105 #[.string S, .int .u8 (c.toNat : Nat)] w fun e w' => e = .returned (.int .i64 (Lib.indexByte S.data.toList c)) ∧ w = w' := by
  refine (Tryz.strings_IndexByte S (c.toNat : Nat) w).mono ?_
  rintro e w' ⟨rfl, rfl⟩
  exact ⟨by simp, rfl⟩
theorem sgn2_idx (c : UInt8) : (0 ≤ Lib.indexByte (⟨#[60, 62, 33]⟩ : ByteArray).data.toList c) ↔ X.sgn2 c = true := by
 rw [idx_mem]; unfold X.sgn2; simp [or_assoc]
theorem sgn1_idx (c : UInt8) : (0 ≤ Lib.indexByte (⟨#[60, 62, 61, 43, 45, 42, 46, 40, 41]⟩ : ByteArray).data.toList c) ↔ X.sgn1 c = true := by
 rw [idx_mem]; unfold X.sgn1; simp
set_option maxRecDepth 100000 in
set_option maxHeartbeats 4000000 in
theorem one_x (w : World) (S : ByteArray) (h0 : 0 < S.size) (hS : S.size ≤ 4096) {r1 r2 r3 : Nat} (hR : X.one S.data.toList = (r1, r2, r3)) :
    Calls Tryz.prog 106 #[.string S] w fun e w' => ∃ T A n c, e = .returned (.tuple #[.agg #[.int .i64 (r2 : Nat), .string T, .bool false, .slice A n c, .int .i64 0], .int .i64 (r1 : Nat)]) ∧ (r1 = 0 → T = S.extract 0 r3 ∧ MagOf w.heap.size w' (.slice A n c) r2 T.data.toList) ∧ Below w.heap.size w w' := by
  have hhd : S.data.toList.headD 0 = S[0]'h0 := by
   have h1 := getD_byte h0
   cases hh : S.data.toList with
   | nil => have := size_list S; rw [hh] at this; simp only [List.length_nil] at this; omega
   | cons c l => rw [hh] at h1; simpa [List.getD] using h1
  have h0i : (0 : Int) < S.size := by omega
  have hSi : (S.size : Int) ≤ 4096 := by omega
  have p2 := Blk.new w 98 #[.int .i64 0, .string ⟨#[]⟩, .bool false, .slice none 0 0, .int .i64 0]
  obtain ⟨W, hW, hbW⟩ : ∃ W : World, W = w.alloc (.cells #[.int .i64 0, .string ⟨#[]⟩, .bool false, .slice none 0 0, .int .i64 0] 98) ∧ Below w.heap.size w W := ⟨_, rfl, below_alloc1 _ _⟩
  rw [← hW] at p2
  have HW := Lib.hid hW
  clear hW
  have HR := Lib.hid hR
  clear hR
  obtain ⟨R, hRL⟩ : ∃ R, X.rowLen S.data.toList = R := ⟨_, rfl⟩
  have hRle : R ≤ S.size := by rw [← hRL, ← size_list]; exact X.rowLen_le _
  obtain ⟨⟨f20, f21, f22, f23, f24⟩, c20, c21, c22, c23, c24⟩ := p2.facts
  by_cases hR0 : 0 < R
  ·
   have hR0i : (0 : Int) < R := by omega
   have hRi : (R : Int) ≤ S.size := by omega
   have d1 : decide ((R : Int) > 0) = true := decide_eq_true (by omega)
   have d2 : decide ((0 : Int) < R) = true := decide_eq_true (by omega)
   have hT : (S.extract 0 R).data.toList = S.data.toList.take R := ext_list
   have hTs : (S.extract 0 R).size = R := ext_size hRle
   obtain ⟨q1, q2, hq⟩ : ∃ q1 q2, X.rowed (S.extract 0 R).data.toList = (q1, q2) := ⟨_, _, rfl⟩
   have e1 : X.one S.data.toList = (q1, q2, R) := by unfold X.one; rw [hRL, if_pos hR0, ← hT, hq]
   have HQ := Lib.hid hq
   have E1 := Lib.hid e1
   have HTS := Lib.hid hTs
   clear e1 hT hTs hhd hq f20 f21 f22 f23 f24 c20 c21 c22 c23 c24
   go_enter Tryz.func106, Tryz.ntmps106
   go_upto_region 1 with (fail)
   rw [← HW.out]
   go_wp2_with (first
    | (go_at_call 117; refine (row_x _ _ (by omega)).mono ?_; rintro e w2 ⟨rfl, rfl⟩; rw [hRL])
    | (go_at_call 141; refine (rowed_x _ (S.extract 0 R) (by rw [HTS.out]; exact hR0) (by rw [HTS.out]; omega) HQ.out).mono ?_; rintro e w3 ⟨T, A, n, c, rfl, hok, hb3⟩; have p2' := p2.below hb3; have hbw := below_on hbW hb3; have hm := Lib.hid hok; clear hok; obtain ⟨⟨f20, f21, f22, f23, f24⟩, c20, c21, c22, c23, c24⟩ := p2'.facts))
   refine bodyPost_ret (results_tok rfl _ _ _ _ _ _ _ _ _ rfl (p2'.set5 _ _ _ _ _)) rfl ?_
   have e2 := HR.out
   rw [E1.out] at e2
   injection e2 with e2 e3
   injection e3 with e3 e4
   subst e2; subst e3; subst e4
   refine ⟨T, A, n, c, rfl, (fun h => ?_), below5 hbw (Nat.le_refl _) _ _ _ _ _⟩
   obtain ⟨h1, h2⟩ := hm.out h
   subst h1
   exact ⟨rfl, (h2.le hbW.size).five p2' (by decide) _ _ _ _ _⟩
  ·
   obtain rfl : R = 0 := by omega
   have e1 : X.one S.data.toList = if X.sgnLen S.data.toList = 0 then (30, 0, 0) else (0, 4, X.sgnLen S.data.toList) := by unfold X.one; rw [hRL]; rfl
   have E1 := Lib.hid e1
   clear e1 hRle hR0
   obtain ⟨I1, hI1⟩ : ∃ I, Lib.indexByte (⟨#[60, 62, 61, 43, 45, 42, 46, 40, 41]⟩ : ByteArray).data.toList (S[0]'h0) = I := ⟨_, rfl⟩
   obtain ⟨I2, hI2⟩ : ∃ I, Lib.indexByte (⟨#[60, 62, 33]⟩ : ByteArray).data.toList (S[0]'h0) = I := ⟨_, rfl⟩
   have g1 := sgn1_idx (S[0]'h0)
   have g2 := sgn2_idx (S[0]'h0)
   rw [hI1] at g1
   rw [hI2] at g2
   have G1 := Lib.hid g1
   have G2 := Lib.hid g2
   clear g1 g2
   by_cases hsz : 1 < S.size
   ·
    have hszi : (1 : Int) < S.size := by omega
    have ds1 : decide ((S.size : Int) > 1) = true := decide_eq_true (by omega)
    have ds2 : decide ((1 : Int) < S.size) = true := decide_eq_true (by omega)
    have hg1 : S.data.toList.getD 1 0 = S[1]'hsz := getD_byte hsz
    by_cases h61 : (S[1]'hsz) = 61
    ·
     have d61 : (((S[1]'hsz).toNat : Int) == 61) = true := by rw [h61]; rfl
     cases hs2 : X.sgn2 (S[0]'h0)
     ·
      have dK : decide (I2 ≥ 0) = false := decide_eq_false (by have := G2.out; rw [hs2] at this; simp at this; omega)
      have dL : decide (0 ≤ I2) = false := decide_eq_false (by have := G2.out; rw [hs2] at this; simp at this; omega)
      cases hs1 : X.sgn1 (S[0]'h0)
      ·
       have dI : decide (I1 ≥ 0) = false := decide_eq_false (by have := G1.out; rw [hs1] at this; simp at this; omega)
       have dJ : decide (0 ≤ I1) = false := decide_eq_false (by have := G1.out; rw [hs1] at this; simp at this; omega)
       have hsl : X.sgnLen S.data.toList = 0 := by
        unfold X.sgnLen
        rw [if_neg (by rw [hhd, hs2]; simp), hhd, hs1]; rfl
       have HSL := Lib.hid hsl
       clear hsl hhd
       go_enter Tryz.func106, Tryz.ntmps106
       go_upto_region 1 with (fail)
       rw [← HW.out]
       go_wp2_with (first
        | (go_at_call 117; refine (row_x _ _ (by omega)).mono ?_; rintro e w2 ⟨rfl, rfl⟩; rw [hRL])
        | (go_at_call 105; refine (index_s _ _ _).mono ?_; rintro e w2 ⟨rfl, rfl⟩; rw [hI2])
        | (go_at_call 105; refine (index_s _ _ _).mono ?_; rintro e w2 ⟨rfl, rfl⟩; rw [hI1])
        | (go_at_call 142; refine (clone_s _ (S.extract 0 0) (by rw [ext_size (by omega)]; omega)).mono ?_; rintro e w3 ⟨rfl, hb3⟩; have p2' := p2.below hb3; have hbw := below_on hbW hb3; clear f20 f21 f22 f23 f24 c20 c21 c22 c23 c24; obtain ⟨⟨f20, f21, f22, f23, f24⟩, c20, c21, c22, c23, c24⟩ := p2'.facts))
       refine bodyPost_ret (results_tok rfl _ _ _ _ _ _ _ _ _ rfl (p2.set5 _ _ _ _ _)) rfl ?_
       have e2 := HR.out
       rw [E1.out, HSL.out] at e2
       rw [if_pos rfl] at e2
       injection e2 with e2 e3
       injection e3 with e3 e4
       subst e2; subst e3; subst e4
       exact ⟨_, _, _, _, rfl, (fun h => by cases h), below5 hbW (Nat.le_refl _) _ _ _ _ _⟩
      ·
       have dI : decide (I1 ≥ 0) = true := decide_eq_true (by have := G1.out; rw [hs1] at this; simpa using this)
       have dJ : decide (0 ≤ I1) = true := decide_eq_true (by have := G1.out; rw [hs1] at this; simpa using this)
       have hsl : X.sgnLen S.data.toList = 1 := by
        unfold X.sgnLen
        rw [if_neg (by rw [hhd, hs2]; simp), hhd, hs1]; rfl
       have HSL := Lib.hid hsl
       clear hsl hhd
       go_enter Tryz.func106, Tryz.ntmps106
       go_upto_region 1 with (fail)
       rw [← HW.out]
       go_wp2_with (first
        | (go_at_call 117; refine (row_x _ _ (by omega)).mono ?_; rintro e w2 ⟨rfl, rfl⟩; rw [hRL])
        | (go_at_call 105; refine (index_s _ _ _).mono ?_; rintro e w2 ⟨rfl, rfl⟩; rw [hI2])
        | (go_at_call 105; refine (index_s _ _ _).mono ?_; rintro e w2 ⟨rfl, rfl⟩; rw [hI1])
        | (go_at_call 142; refine (clone_s _ (S.extract 0 1) (by rw [ext_size (by omega)]; omega)).mono ?_; rintro e w3 ⟨rfl, hb3⟩; have p2' := p2.below hb3; have hbw := below_on hbW hb3; clear f20 f21 f22 f23 f24 c20 c21 c22 c23 c24; obtain ⟨⟨f20, f21, f22, f23, f24⟩, c20, c21, c22, c23, c24⟩ := p2'.facts))
       refine bodyPost_ret (results_tok rfl _ _ _ _ _ _ _ _ _ rfl (p2'.set5 _ _ _ _ _)) rfl ?_
       have e2 := HR.out
       rw [E1.out, HSL.out] at e2
       rw [if_neg (by decide)] at e2
       injection e2 with e2 e3
       injection e3 with e3 e4
       subst e2; subst e3; subst e4
       exact ⟨_, _, _, _, rfl, (fun _ => ⟨rfl, MagOf.other (by decide)⟩), below5 hbw (Nat.le_refl _) _ _ _ _ _⟩
     ·
      have dK : decide (I2 ≥ 0) = true := decide_eq_true (by have := G2.out; rw [hs2] at this; simpa using this)
      have dL : decide (0 ≤ I2) = true := decide_eq_true (by have := G2.out; rw [hs2] at this; simpa using this)
      have hsl : X.sgnLen S.data.toList = 2 := by
       unfold X.sgnLen
       rw [if_pos (by rw [hhd, hs2, hg1, size_list]; exact ⟨hsz, h61, rfl⟩)]
      have HSL := Lib.hid hsl
      clear hsl hhd
      go_enter Tryz.func106, Tryz.ntmps106
      go_upto_region 1 with (fail)
      rw [← HW.out]
      go_wp2_with (first
       | (go_at_call 117; refine (row_x _ _ (by omega)).mono ?_; rintro e w2 ⟨rfl, rfl⟩; rw [hRL])
       | (go_at_call 105; refine (index_s _ _ _).mono ?_; rintro e w2 ⟨rfl, rfl⟩; rw [hI2])
       | (go_at_call 105; refine (index_s _ _ _).mono ?_; rintro e w2 ⟨rfl, rfl⟩; rw [hI1])
       | (go_at_call 142; refine (clone_s _ (S.extract 0 2) (by rw [ext_size (by omega)]; omega)).mono ?_; rintro e w3 ⟨rfl, hb3⟩; have p2' := p2.below hb3; have hbw := below_on hbW hb3; clear f20 f21 f22 f23 f24 c20 c21 c22 c23 c24; obtain ⟨⟨f20, f21, f22, f23, f24⟩, c20, c21, c22, c23, c24⟩ := p2'.facts))
      refine bodyPost_ret (results_tok rfl _ _ _ _ _ _ _ _ _ rfl (p2'.set5 _ _ _ _ _)) rfl ?_
      have e2 := HR.out
      rw [E1.out, HSL.out] at e2
      rw [if_neg (by decide)] at e2
      injection e2 with e2 e3
      injection e3 with e3 e4
      subst e2; subst e3; subst e4
      exact ⟨_, _, _, _, rfl, (fun _ => ⟨rfl, MagOf.other (by decide)⟩), below5 hbw (Nat.le_refl _) _ _ _ _ _⟩
    ·
     have d61 : (((S[1]'hsz).toNat : Int) == 61) = false := by
      have h1 : (S[1]'hsz).toNat ≠ 61 := fun e => h61 (UInt8.toNat_inj.1 e)
      simp; omega
     cases hs1 : X.sgn1 (S[0]'h0)
     ·
      have dI : decide (I1 ≥ 0) = false := decide_eq_false (by have := G1.out; rw [hs1] at this; simp at this; omega)
      have dJ : decide (0 ≤ I1) = false := decide_eq_false (by have := G1.out; rw [hs1] at this; simp at this; omega)
      have hsl : X.sgnLen S.data.toList = 0 := by
       unfold X.sgnLen
       rw [if_neg (by rw [hg1]; exact fun h => h61 h.2.1), hhd, hs1]; rfl
      have HSL := Lib.hid hsl
      clear hsl hhd
      go_enter Tryz.func106, Tryz.ntmps106
      go_upto_region 1 with (fail)
      rw [← HW.out]
      go_wp2_with (first
       | (go_at_call 117; refine (row_x _ _ (by omega)).mono ?_; rintro e w2 ⟨rfl, rfl⟩; rw [hRL])
       | (go_at_call 105; refine (index_s _ _ _).mono ?_; rintro e w2 ⟨rfl, rfl⟩; rw [hI2])
       | (go_at_call 105; refine (index_s _ _ _).mono ?_; rintro e w2 ⟨rfl, rfl⟩; rw [hI1])
       | (go_at_call 142; refine (clone_s _ (S.extract 0 0) (by rw [ext_size (by omega)]; omega)).mono ?_; rintro e w3 ⟨rfl, hb3⟩; have p2' := p2.below hb3; have hbw := below_on hbW hb3; clear f20 f21 f22 f23 f24 c20 c21 c22 c23 c24; obtain ⟨⟨f20, f21, f22, f23, f24⟩, c20, c21, c22, c23, c24⟩ := p2'.facts))
      refine bodyPost_ret (results_tok rfl _ _ _ _ _ _ _ _ _ rfl (p2.set5 _ _ _ _ _)) rfl ?_
      have e2 := HR.out
      rw [E1.out, HSL.out] at e2
      rw [if_pos rfl] at e2
      injection e2 with e2 e3
      injection e3 with e3 e4
      subst e2; subst e3; subst e4
      exact ⟨_, _, _, _, rfl, (fun h => by cases h), below5 hbW (Nat.le_refl _) _ _ _ _ _⟩
     ·
      have dI : decide (I1 ≥ 0) = true := decide_eq_true (by have := G1.out; rw [hs1] at this; simpa using this)
      have dJ : decide (0 ≤ I1) = true := decide_eq_true (by have := G1.out; rw [hs1] at this; simpa using this)
      have hsl : X.sgnLen S.data.toList = 1 := by
       unfold X.sgnLen
       rw [if_neg (by rw [hg1]; exact fun h => h61 h.2.1), hhd, hs1]; rfl
      have HSL := Lib.hid hsl
      clear hsl hhd
      go_enter Tryz.func106, Tryz.ntmps106
      go_upto_region 1 with (fail)
      rw [← HW.out]
      go_wp2_with (first
       | (go_at_call 117; refine (row_x _ _ (by omega)).mono ?_; rintro e w2 ⟨rfl, rfl⟩; rw [hRL])
       | (go_at_call 105; refine (index_s _ _ _).mono ?_; rintro e w2 ⟨rfl, rfl⟩; rw [hI2])
       | (go_at_call 105; refine (index_s _ _ _).mono ?_; rintro e w2 ⟨rfl, rfl⟩; rw [hI1])
       | (go_at_call 142; refine (clone_s _ (S.extract 0 1) (by rw [ext_size (by omega)]; omega)).mono ?_; rintro e w3 ⟨rfl, hb3⟩; have p2' := p2.below hb3; have hbw := below_on hbW hb3; clear f20 f21 f22 f23 f24 c20 c21 c22 c23 c24; obtain ⟨⟨f20, f21, f22, f23, f24⟩, c20, c21, c22, c23, c24⟩ := p2'.facts))
      refine bodyPost_ret (results_tok rfl _ _ _ _ _ _ _ _ _ rfl (p2'.set5 _ _ _ _ _)) rfl ?_
      have e2 := HR.out
      rw [E1.out, HSL.out] at e2
      rw [if_neg (by decide)] at e2
      injection e2 with e2 e3
      injection e3 with e3 e4
      subst e2; subst e3; subst e4
      exact ⟨_, _, _, _, rfl, (fun _ => ⟨rfl, MagOf.other (by decide)⟩), below5 hbw (Nat.le_refl _) _ _ _ _ _⟩
   ·
    have ds1 : decide ((S.size : Int) > 1) = false := decide_eq_false (by omega)
    have ds2 : decide ((1 : Int) < S.size) = false := decide_eq_false (by omega)
    cases hs1 : X.sgn1 (S[0]'h0)
    ·
     have dI : decide (I1 ≥ 0) = false := decide_eq_false (by have := G1.out; rw [hs1] at this; simp at this; omega)
     have dJ : decide (0 ≤ I1) = false := decide_eq_false (by have := G1.out; rw [hs1] at this; simp at this; omega)
     have hsl : X.sgnLen S.data.toList = 0 := by
      unfold X.sgnLen
      rw [if_neg (by rw [size_list]; exact fun h => hsz h.1), hhd, hs1]; rfl
     have HSL := Lib.hid hsl
     clear hsl hhd
     go_enter Tryz.func106, Tryz.ntmps106
     go_upto_region 1 with (fail)
     rw [← HW.out]
     go_wp2_with (first
      | (go_at_call 117; refine (row_x _ _ (by omega)).mono ?_; rintro e w2 ⟨rfl, rfl⟩; rw [hRL])
      | (go_at_call 105; refine (index_s _ _ _).mono ?_; rintro e w2 ⟨rfl, rfl⟩; rw [hI2])
      | (go_at_call 105; refine (index_s _ _ _).mono ?_; rintro e w2 ⟨rfl, rfl⟩; rw [hI1])
      | (go_at_call 142; refine (clone_s _ (S.extract 0 0) (by rw [ext_size (by omega)]; omega)).mono ?_; rintro e w3 ⟨rfl, hb3⟩; have p2' := p2.below hb3; have hbw := below_on hbW hb3; clear f20 f21 f22 f23 f24 c20 c21 c22 c23 c24; obtain ⟨⟨f20, f21, f22, f23, f24⟩, c20, c21, c22, c23, c24⟩ := p2'.facts))
     refine bodyPost_ret (results_tok rfl _ _ _ _ _ _ _ _ _ rfl (p2.set5 _ _ _ _ _)) rfl ?_
     have e2 := HR.out
     rw [E1.out, HSL.out] at e2
     rw [if_pos rfl] at e2
     injection e2 with e2 e3
     injection e3 with e3 e4
     subst e2; subst e3; subst e4
     exact ⟨_, _, _, _, rfl, (fun h => by cases h), below5 hbW (Nat.le_refl _) _ _ _ _ _⟩
    ·
     have dI : decide (I1 ≥ 0) = true := decide_eq_true (by have := G1.out; rw [hs1] at this; simpa using this)
     have dJ : decide (0 ≤ I1) = true := decide_eq_true (by have := G1.out; rw [hs1] at this; simpa using this)
     have hsl : X.sgnLen S.data.toList = 1 := by
      unfold X.sgnLen
      rw [if_neg (by rw [size_list]; exact fun h => hsz h.1), hhd, hs1]; rfl
     have HSL := Lib.hid hsl
     clear hsl hhd
     go_enter Tryz.func106, Tryz.ntmps106
     go_upto_region 1 with (fail)
     rw [← HW.out]
     go_wp2_with (first
      | (go_at_call 117; refine (row_x _ _ (by omega)).mono ?_; rintro e w2 ⟨rfl, rfl⟩; rw [hRL])
      | (go_at_call 105; refine (index_s _ _ _).mono ?_; rintro e w2 ⟨rfl, rfl⟩; rw [hI2])
      | (go_at_call 105; refine (index_s _ _ _).mono ?_; rintro e w2 ⟨rfl, rfl⟩; rw [hI1])
      | (go_at_call 142; refine (clone_s _ (S.extract 0 1) (by rw [ext_size (by omega)]; omega)).mono ?_; rintro e w3 ⟨rfl, hb3⟩; have p2' := p2.below hb3; have hbw := below_on hbW hb3; clear f20 f21 f22 f23 f24 c20 c21 c22 c23 c24; obtain ⟨⟨f20, f21, f22, f23, f24⟩, c20, c21, c22, c23, c24⟩ := p2'.facts))
     refine bodyPost_ret (results_tok rfl _ _ _ _ _ _ _ _ _ rfl (p2'.set5 _ _ _ _ _)) rfl ?_
     have e2 := HR.out
     rw [E1.out, HSL.out] at e2
     rw [if_neg (by decide)] at e2
     injection e2 with e2 e3
     injection e3 with e3 e4
     subst e2; subst e3; subst e4
     exact ⟨_, _, _, _, rfl, (fun _ => ⟨rfl, MagOf.other (by decide)⟩), below5 hbw (Nat.le_refl _) _ _ _ _ _⟩
end
end Go.Proofs.YthiadenmljbdaaaGreatDoor

/-
  riddleref01.Parse: contract.
-/
import Derived.Test.YtiidghfkdjefgaaDoorRAdd
namespace Go.Proofs.YtiidghfkdjefgaaDoor
open Go.RowKit

theorem byte_at {S : ByteArray} {i : Nat} (h : i < S.size) : S.data.toList[i]? = some (S[i]'h) := by
  rw [Array.getElem?_toList]; exact Array.getElem?_eq_getElem h
theorem not_empty {S : ByteArray} (h : 0 < S.size) : S.toList.isEmpty = false ∧ S.toList ≠ [] := by
  have h1 : S.toList ≠ [] := by
    rw [ByteArray.toList_eq]
    intro e
    have := congrArg List.length e
    rw [Array.length_toList] at this
    exact absurd this (by show ¬ S.size = 0; omega)
  refine ⟨?_, h1⟩
  cases hh : S.toList with
  | nil => exact absurd hh h1
  | cons _ _ => rfl
theorem size_list (S : ByteArray) : S.data.toList.length = S.size := Array.length_toList

set_option maxRecDepth 100000 in
set_option maxHeartbeats 1600000 in
theorem rparse_ok (w : World) (S : ByteArray) (hs : S.size ≤ 1099511627776) (hok : N.okTxt S.data.toList) :
    Calls Tryd.prog 60 #[.string S] w fun e w' => ∃ v, e = .returned (.tuple #[v, .bool true]) ∧ Bar w' v S.size (N.val S.data.toList) ∧ Below w.heap.size w w' := by
  have hS0 : 0 < S.size := by
    rcases Nat.eq_zero_or_pos S.size with h | h
    · exact absurd (List.eq_nil_of_length_eq_zero (by simpa using h)) hok.1
    · exact h
  obtain ⟨hne, hnil⟩ := not_empty hS0
  have hcond : ((((S[0]'hS0).toNat : Int) == 48) = true ∧ decide ((S.size : Int) > 1) = false ∧ decide (1 < (S.size : Int)) = false) ∨ (((S[0]'hS0).toNat : Int) == 48) = false := by
    by_cases h : (S[0]'hS0).toNat = 48
    · have h1 := byte_at hS0
      have h2 : S.data.toList.length = 1 := hok.2.2 (by rw [List.head?_eq_getElem?, h1]; exact congrArg some (UInt8.toNat_inj.1 h))
      rw [size_list] at h2
      exact .inl ⟨by simp; omega, decide_eq_false (by omega), decide_eq_false (by omega)⟩
    · exact .inr (by simp; omega)
  have hdig : ∀ i, (h : i < S.size) → 48 ≤ (S[i]'h).toNat ∧ (S[i]'h).toNat ≤ 57 := fun i h => hok.2.1 _ (List.mem_of_getElem? (byte_at h))
  have HD := Lib.hid hdig
  have HOK := Lib.hid hok
  clear hdig hok hnil
  have fin : ∀ i, (h : i < S.size) → N.val (S.data.toList.take (i + 1)) = 10 * N.val (S.data.toList.take i) + ((S[i]'h).toNat - 48) := fun i h => by
    rw [List.take_add_one, byte_at h]; exact N.val_snoc _ _
  have vlt : ∀ i, N.val (S.data.toList.take i) < 4294967296 ^ i := fun i => by
    have h1 := N.val_lt (l := S.data.toList.take i) (fun c hc => HOK.out.2.1 c (List.mem_of_mem_take hc))
    have h2 : (10 : Nat) ^ (S.data.toList.take i).length ≤ 10 ^ i := Nat.pow_le_pow_right (by omega) (by rw [List.length_take]; omega)
    have h3 : (10 : Nat) ^ i ≤ 4294967296 ^ i := Nat.pow_le_pow_left (by omega) _
    omega
  have FIN := Lib.hid fin
  have VLT := Lib.hid vlt
  clear fin vlt
  go_enter Tryd.func60, Tryd.ntmps60
  rcases hcond with ⟨hd0, hsz, hsz2⟩ | hd0
  all_goals
    go_wp2_with fail
    go_loopw [5] (fun v5 wr => ∃ i : Nat, i ≤ S.size ∧ v5 = .int .i64 i ∧ w = wr) (fun v5 _ => S.size - (intOf v5).toNat)
    case atStart => exact ⟨0, by omega, rfl, rfl⟩
    case round =>
      obtain ⟨i, hi, rfl, rfl⟩ := hrel
      by_cases hin : i < S.size
      · obtain ⟨q1, q2⟩ := HD.out i hin
        have t1 : decide (((S[i]'hin).toNat : Int) < 48) = false := decide_eq_false (by omega)
        have t2 : decide (((S[i]'hin).toNat : Int) > 57) = false := decide_eq_false (by omega)
        have t3 : decide (57 < ((S[i]'hin).toNat : Int)) = false := decide_eq_false (by omega)
        clear q1 q2
        go_wp2_with fail
        go_roundw
        case rel => exact ⟨i + 1, by omega, by go_num, trivial⟩
        case measure => simp [intOf]; omega
      · obtain rfl : i = S.size := by omega
        go_wp2_with fail
        go_loopw [4, 6] (fun v4 v6 wr => ∃ (i : Nat) (A : Option Addr) (n c : Nat), i ≤ S.size ∧ v6 = .int .i64 i ∧ v4 = .slice A n c ∧ Sl wr A n c (N.ofN (N.val (S.data.toList.take i))) ∧ Below w.heap.size w wr) (fun _ v6 _ => S.size - (intOf v6).toNat)
        case atStart => exact ⟨0, none, 0, 0, by omega, rfl, rfl, Sl.nil _ _ _, Below.refl _ _⟩
        case round =>
          obtain ⟨i, A, n, c, hi, rfl, rfl, hsl, hbw⟩ := hrel
          have hn : n ≤ i := by have h1 := hsl.len; have h2 := N.ofN_length_le (VLT.out i); omega
          by_cases hin : i < S.size
          · obtain ⟨q1, q2⟩ := HD.out i hin
            have hf := FIN.out i hin
            obtain ⟨q, hq⟩ : ∃ q, (S[i]'hin).toNat = q := ⟨_, rfl⟩
            rw [hq] at q1 q2 hf
            have HF := Lib.hid hf
            have hq' : ((S[i]'hin).toNat : Int) = (q : Int) := by rw [hq]
            clear hf hq
            go_wp2_with fail
            refine (rtimes_any _ A n c _ 10 (q - 48) _ _ rfl (by omega) hsl (by omega) (by omega) (by omega)).mono ?_
            rintro e w1 ⟨g1, n1, c1, rfl, ho1, hb1⟩
            rw [N.nv_ofN, Nat.mul_comm, ← HF.out] at ho1
            go_wp2_with fail
            go_roundw
            case rel => exact ⟨i + 1, _, _, _, by omega, by go_num, rfl, ho1.sl, hbw.trans (hb1.mono hbw.size)⟩
            case measure => simp [intOf]; omega
          · obtain rfl : i = S.size := by omega
            go_wp2_with fail
            go_ret2
            rw [List.take_of_length_le (by rw [size_list]; exact Nat.le_refl _)] at hsl
            exact ⟨_, rfl, ⟨_, _, _, rfl, hsl, hn⟩, hbw⟩

set_option maxRecDepth 100000 in
set_option maxHeartbeats 1600000 in
theorem rparse_bad (w : World) (S : ByteArray) (hs : S.size ≤ 1099511627776) (hok : ¬ N.okTxt S.data.toList) :
    Calls Tryd.prog 60 #[.string S] w fun e w' => e = .returned (.tuple #[.slice none 0 0, .bool false]) ∧ w = w' := by
  by_cases hS0 : S.size = 0
  · have hne : S.toList = [] := by rw [ByteArray.toList_eq]; exact List.eq_nil_of_length_eq_zero (by rw [Array.length_toList]; exact hS0)
    go_enter Tryd.func60, Tryd.ntmps60
    go_wp2_with fail
    go_ret2
    exact ⟨rfl, rfl⟩
  · have hp : 0 < S.size := by omega
    obtain ⟨hne, hnil⟩ := not_empty hp
    have hb0 := byte_at hp
    by_cases h48 : (S[0]'hp).toNat = 48 ∧ 1 < S.size
    · have hd0 : (((S[0]'hp).toNat : Int) == 48) = true := by simp; omega
      have hsz : decide ((S.size : Int) > 1) = true := decide_eq_true (by omega)
      have hsz2 : decide (1 < (S.size : Int)) = true := decide_eq_true (by omega)
      clear h48 hnil hb0 hok
      go_enter Tryd.func60, Tryd.ntmps60
      go_wp2_with fail
      go_ret2
      exact ⟨rfl, rfl⟩
    · have hall : ¬ ∀ i, (h : i < S.size) → 48 ≤ (S[i]'h).toNat ∧ (S[i]'h).toNat ≤ 57 := fun hd => by
        refine hok ⟨fun e => ?_, fun c hc => ?_, fun e => ?_⟩
        · have := congrArg List.length e
          rw [size_list] at this
          exact hS0 this
        · obtain ⟨i, hi⟩ := List.mem_iff_getElem?.1 hc
          have hlt : i < S.size := by
            have := (List.getElem?_eq_some_iff.1 hi).1
            rw [size_list] at this; exact this
          rw [byte_at hlt] at hi
          injection hi with hi
          rw [← hi]; exact hd i hlt
        · rw [List.head?_eq_getElem?, hb0] at e
          have h1 : (S[0]'hp).toNat = 48 := by injection e with e; rw [e]; rfl
          rw [size_list]
          omega
      have HALL := Lib.hid hall
      have hcond : ((((S[0]'hp).toNat : Int) == 48) = true ∧ decide ((S.size : Int) > 1) = false ∧ decide (1 < (S.size : Int)) = false) ∨ (((S[0]'hp).toNat : Int) == 48) = false := by
        by_cases h : (S[0]'hp).toNat = 48
        · exact .inl ⟨by simp; omega, decide_eq_false (by omega), decide_eq_false (by omega)⟩
        · exact .inr (by simp; omega)
      clear hall h48 hnil hb0 hok
      go_enter Tryd.func60, Tryd.ntmps60
      rcases hcond with ⟨hd0, hsz, hsz2⟩ | hd0
      all_goals
        go_wp2_with fail
        go_loopw [5] (fun v5 wr => ∃ i : Nat, i ≤ S.size ∧ v5 = .int .i64 i ∧ (∀ j, (h : j < S.size) → j < i → 48 ≤ (S[j]'h).toNat ∧ (S[j]'h).toNat ≤ 57) ∧ w = wr) (fun v5 _ => S.size - (intOf v5).toNat)
        case atStart => exact ⟨0, by omega, rfl, fun j h hj => by omega, rfl⟩
        case round =>
          obtain ⟨i, hi, rfl, hbe, rfl⟩ := hrel
          have HBE := Lib.hid hbe
          clear hbe
          by_cases hin : i < S.size
          · rcases (show (S[i]'hin).toNat < 48 ∨ 57 < (S[i]'hin).toNat ∨ (48 ≤ (S[i]'hin).toNat ∧ (S[i]'hin).toNat ≤ 57) by omega) with q | q | q
            · have t1 : decide (((S[i]'hin).toNat : Int) < 48) = true := decide_eq_true (by omega)
              clear q
              go_wp2_with fail
              go_ret2
              exact ⟨rfl, rfl⟩
            · have t1 : decide (((S[i]'hin).toNat : Int) < 48) = false := decide_eq_false (by omega)
              have t2 : decide (((S[i]'hin).toNat : Int) > 57) = true := decide_eq_true (by omega)
              have t3 : decide (57 < ((S[i]'hin).toNat : Int)) = true := decide_eq_true (by omega)
              clear q
              go_wp2_with fail
              go_ret2
              exact ⟨rfl, rfl⟩
            · have t1 : decide (((S[i]'hin).toNat : Int) < 48) = false := decide_eq_false (by omega)
              have t2 : decide (((S[i]'hin).toNat : Int) > 57) = false := decide_eq_false (by omega)
              have t3 : decide (57 < ((S[i]'hin).toNat : Int)) = false := decide_eq_false (by omega)
              have Q := Lib.hid q
              clear q
              go_wp2_with fail
              go_roundw
              case rel =>
                refine ⟨i + 1, by omega, by go_num, fun j h hj => ?_, trivial⟩
                rcases Nat.lt_or_ge j i with h1 | h1
                · exact HBE.out j h h1
                · obtain rfl : j = i := by omega
                  exact Q.out
              case measure => simp [intOf]; omega
          · exfalso
            exact HALL.out fun j h => HBE.out j h (by omega)
end Go.Proofs.YtiidghfkdjefgaaDoor

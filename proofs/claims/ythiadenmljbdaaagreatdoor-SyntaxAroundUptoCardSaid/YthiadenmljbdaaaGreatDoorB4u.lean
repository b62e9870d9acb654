/-
  u: the parts SyntaxAround of the proof.
-/
import Derived.Test.YthiadenmljbdaaaGreatDoorB37s
import Derived.Test.YthiadenmljbdaaaGreatDoorB3u
import Derived.Test.YthiadenmljbdaaaGreatDoorB38s
import Derived.Test.YthiadenmljbdaaaGreatDoorB1u
section
namespace Go.Proofs.YthiadenmljbdaaaGreatDoor
open Go.RowKit
open Go.Shelf
set_option maxRecDepth 100000 in
set_option maxHeartbeats 4000000 in
theorem walkSyntaxAround (w : World) (S : ByteArray) (hS : S.size ≤ 1048576) (z : Int) (hz : -9223372036854775808 ≤ z ∧ z < 9223372036854775808) :
    Calls Tryz.prog 9 #[.string S, .int .i64 z] w fun e w' => e = .returned (.bool true) ∧ Below w.heap.size w w' := by
  obtain ⟨c, hc⟩ : ∃ c, (P.res S).1 = c := ⟨_, rfl⟩
  obtain ⟨p, hpe⟩ : ∃ c, (P.res S).2.1 = c := ⟨_, rfl⟩
  obtain ⟨t, ht⟩ : ∃ c, (P.res S).2.2 = c := ⟨_, rfl⟩
  obtain ⟨r, hr⟩ : ∃ r, pk z 40 = r := ⟨_, rfl⟩
  have hr40 : r < 40 := by rw [← hr]; exact pk_lt z (by decide)
  have hbt := res_bulk S
  rw [ht] at hbt
  have HRS : Hid (P.res S = (c, p, t)) := Lib.hid (by rw [← hc, ← hpe, ← ht])
  have HPA := Lib.hid (fun (w : World) => by have := parse_o w S; rw [HRS.out] at this; exact this)
  have HPK := Lib.hid (fun (w : World) => by have := pick_z w z hz 40 (by decide) (by decide); rw [hr] at this; exact this)
  have HBT := Lib.hid hbt
  have HS := Lib.hid hS
  clear hc hpe ht hr hbt hz
  go_enter Tryz.func9, Tryz.ntmps9
  go_upto_region 2 with (go_at_call 12; refine (HPA.out _).mono ?_; rintro e w1 ⟨k', nm', B1, m1, d1', ng', B2, m2, d2, B3, m3, d3, rfl, hin, hb1⟩)
  obtain ⟨V, hV, qs, qm, hbV⟩ := two_new w1 #[.int .i64 k', .string nm', .slice B1 m1 d1', .bool ng', .slice B2 m2 d2, .slice B3 m3 d3] (.int .i64 (c : Nat)) (.int .i64 (p : Nat))
  rw [← hV]
  obtain ⟨g2, hg2⟩ : ∃ x, x = w1.heap.size + 1 := ⟨_, rfl⟩
  obtain ⟨g1, hg1⟩ : ∃ x, x = w1.heap.size := ⟨_, rfl⟩
  rw [← hg2] at qm ⊢
  rw [← hg1] at qs ⊢
  have hV1 := below_on hb1 hbV
  have HJ := Lib.hid (hin.below hbV)
  clear hV hg1 hg2 hbV hin
  obtain ⟨y0, y1, y2, y3, y4, y5⟩ := qs.six
  obtain ⟨_, _, m0, m1'⟩ := qm.facts
  clear y0 y1 y2 y3 y4 y5 m0 m1'
  go_wp2_with fail
  go_loopg [7, 8] (r + 1) (fun gk v7 v8 wr => ∃ i : Nat, gk + i = r + 1 ∧ i ≤ r ∧ v8 = .int .i64 (i : Nat) ∧ v7 = .string (P.arounds S i) ∧ wr = V)
  case atStart => exact ⟨0, by omega, Nat.zero_le _, rfl, rfl, rfl⟩
  case round =>
    obtain ⟨i, hi, hir, rfl, rfl, rfl⟩ := hrel
    obtain ⟨Q, hQ⟩ : ∃ Q, P.arounds S i = Q := ⟨_, rfl⟩
    have hqs : Q.size = S.size + 4 * i := by rw [← hQ, P.arounds_size]
    have hS := HS.out
    by_cases hlt : i < r
    · have hi3 : decide (i < r) = true := decide_eq_true hlt
      have hi4 : decide ((i : Int) < (r : Int)) = true := by simp; omega
      have hz2 : (⟨#[40, 32]⟩ : ByteArray).size = 2 := rfl
      have hz3 : (⟨#[9, 41]⟩ : ByteArray).size = 2 := rfl
      have hc2 : ¬ (9223372036854775807 < 2 + Q.size) := by omega
      have hc4 : ¬ (9223372036854775807 < 2 + Q.size + 2) := by omega
      have hnext : P.arounds S (i + 1) = ⟨#[40, 32]⟩ ++ Q ++ ⟨#[9, 41]⟩ := by rw [P.arounds, hQ]; rfl
      have HX := Lib.hid hnext
      rw [hQ]
      clear hQ hqs hS hnext
      go_wp2_with (go_at_call 31; refine (HPK.out _).mono ?_; rintro e w2 ⟨rfl, rfl⟩)
      go_roundg (r - i)
      case measure => omega
      case rel => exact ⟨i + 1, by omega, by omega, by go_num, by rw [HX.out], rfl⟩
    · obtain rfl : i = r := by omega
      have hi3 : decide (i < i) = false := decide_eq_false hlt
      have hi4 : decide ((i : Int) < (i : Int)) = false := by simp
      have HQ := Lib.hid hQ
      rw [hQ]
      obtain ⟨_, _, m0, m1'⟩ := qm.facts
      by_cases hbad : c ≠ 0 ∨ 4096 < Q.size
      · clear hQ
        by_cases hc0 : c = 0
        · subst hc0
          have hb2 : decide (Q.size > 4096) = true := by simp; omega
          have hb3 : decide (4096 < Q.size) = true := by simp; omega
          have hb4 : decide ((4096 : Int) < (Q.size : Int)) = true := by simp; omega
          have hb5 : decide ((Q.size : Int) > (4096 : Int)) = true := by simp; omega
          go_wp2_with (first
            | (go_at_call 31; refine (HPK.out _).mono ?_; rintro e w2 ⟨rfl, rfl⟩)
            | (go_at_call 15; refine (known_w _).mono ?_; rintro e w4 ⟨rfl, hb4⟩))
          go_ret
          exact ⟨rfl, below_on hV1 hb4⟩
        · have q0 : ((c : Int) != 0) = true := by simp; omega
          go_wp2_with (first
            | (go_at_call 31; refine (HPK.out _).mono ?_; rintro e w2 ⟨rfl, rfl⟩)
            | (go_at_call 15; refine (known_w _).mono ?_; rintro e w4 ⟨rfl, hb4⟩))
          go_ret
          exact ⟨rfl, below_on hV1 hb4⟩
      · obtain rfl : c = 0 := by omega
        have hqz : Q.size ≤ 4096 := by omega
        have hzz := P.res_zero S (by rw [HRS.out])
        have htt : (P.res S).2.2 = t := by rw [HRS.out]
        rw [htt] at hzz
        have HR2 : Hid (P.res Q = (0, 0, t)) := Lib.hid (by rw [← hQ]; exact P.res_arounds hzz i (by rw [hQ]; exact hqz))
        have hb3 : decide (4096 < Q.size) = false := by simp; omega
        have hb5 : decide ((4096 : Int) < (Q.size : Int)) = false := by simp; omega
        clear hQ hzz htt
        go_upto_region 10 with (first
          | (go_at_call 31; refine (HPK.out _).mono ?_; rintro e w2 ⟨rfl, rfl⟩)
          | (go_at_call 12; refine (parse_k _ Q t HR2.out).mono ?_; rintro e w4 ⟨k2, nm2, C1, p1, f1, ng2, C2, p2, f2, C3, p3, f3, rfl, hin, hb4⟩; have hV4 := below_on hV1 hb4))
        clear m0 m1'
        obtain ⟨U, hU, rs, rm, hbU⟩ := two_new w4 #[.int .i64 k2, .string nm2, .slice C1 p1 f1, .bool ng2, .slice C2 p2 f2, .slice C3 p3 f3] (.int .i64 0) (.int .i64 0)
        rw [← hU]
        obtain ⟨g4, hg4⟩ : ∃ x, x = w4.heap.size + 1 := ⟨_, rfl⟩
        obtain ⟨g3, hg3⟩ : ∃ x, x = w4.heap.size := ⟨_, rfl⟩
        rw [← hg4] at rm ⊢
        rw [← hg3] at rs ⊢
        have hV5 := below_on hV4 hbU
        have hW5 := hb4.trans (hbU.mono hb4.size)
        have HJ2 := Lib.hid (hin.below hbU)
        clear hU hg3 hg4 hbU hin hb4
        obtain ⟨y0, y1, y2, y3, y4, y5⟩ := (qs.below hW5).six
        obtain ⟨z0, z1, z2, z3, z4, z5⟩ := rs.six
        obtain ⟨_, _, m0, m1'⟩ := rm.facts
        have HJ1 := Lib.hid (HJ.out.below hW5)
        have hbt := HBT.out
        go_wp2_with (first
          | (go_at_call 13; refine (exact_t 1048576 t t _ _ _ _ _ (by omega) (by omega) (Nat.le_refl _) rfl HJ1.out HJ2.out).mono ?_; rintro e w7 ⟨rfl, hb7⟩; have hV7 := below_on hV5 hb7; clear hb7)
          | (go_at_call 15; refine (known_w _).mono ?_; rintro e w8 ⟨rfl, hb8⟩; have hV8 := below_on hV7 hb8; clear hb8))
        go_ret
        exact ⟨rfl, hV8⟩
end Go.Proofs.YthiadenmljbdaaaGreatDoor
end

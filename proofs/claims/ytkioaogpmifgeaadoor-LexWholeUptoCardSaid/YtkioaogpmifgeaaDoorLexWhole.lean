/-
  The walk of riddlelaw03.LexWhole: it answers true.
-/
import Derived.Test.YtkioaogpmifgeaaDoorLexPre
import Derived.Test.YtkioaogpmifgeaaDoorLexY
import Derived.Test.YtkioaogpmifgeaaDoorLexBlanks
namespace Go.Proofs.YtkioaogpmifgeaaDoor
open Go.RowKit

theorem X.pre_list {S : ByteArray} {k : Nat} : (S.extract 0 k).data.toList = S.data.toList.take k := by
  have := X.sub_list (S := S) (a := 0) (k := k)
  rwa [Nat.zero_add, List.drop_zero] at this
theorem X.blank_ne (c : UInt8) (h : X.blank c = true) : ((c.toNat : Int) != 32) = false ∨ (((c.toNat : Int) != 32) = true ∧ ((c.toNat : Int) != 9) = false) ∨ (((c.toNat : Int) != 32) = true ∧ ((c.toNat : Int) != 9) = true ∧ ((c.toNat : Int) != 10) = false) ∨ (((c.toNat : Int) != 32) = true ∧ ((c.toNat : Int) != 9) = true ∧ ((c.toNat : Int) != 10) = true ∧ ((c.toNat : Int) != 13) = false) := by
  unfold X.blank at h
  simp only [Bool.or_eq_true, beq_iff_eq, or_assoc] at h
  rcases h with rfl | rfl | rfl | rfl <;> decide
set_option maxRecDepth 100000 in
set_option maxHeartbeats 8000000 in
theorem walkLexWhole (w : World) (S : ByteArray) (hS : S.size ≤ 1048576) :
    Calls Tryd.prog 7 #[.string S] w fun e w' => e = .returned (.bool true) ∧ Below w.heap.size w w' := by
  obtain ⟨ps, code, at_, ha⟩ : ∃ ps code at_, X.ans S.data.toList = (ps, code, at_) := ⟨_, _, _, rfl⟩
  go_enter Tryd.func7, Tryd.ntmps7
  go_upto_region 2 with (go_at_call 9; refine (tokens_x _ S).mono ?_; rintro e w1 ⟨vl, rsl, rfl, hol, htl, hb1⟩; rw [ha]; rw [ha] at htl; dsimp only at htl ⊢)
  obtain ⟨W1, hW1, p4, hm1, _⟩ := mis_new w1 code at_
  rw [← hW1]
  obtain ⟨b4, hb4⟩ : ∃ b, b = w1.heap.size := ⟨_, rfl⟩
  rw [← hb4] at p4 ⊢
  have hbw := below_on hb1 hm1
  clear hW1 hb4
  by_cases h0 : code = 0
  · subst h0
    obtain ⟨hl4, hlex⟩ := X.ans_ok ha
    rw [size_list] at hl4
    have HLEX := Lib.hid hlex
    have hz0 : ((0 : Nat) : Int) = 0 := rfl
    rw [hz0] at p4 ⊢
    obtain ⟨_, c40, c41⟩ := p4.facts2
    have harr := (tok_arr hol htl).below hm1
    obtain ⟨Al, cl, rfl, hcl⟩ := harr
    rw [X.tks_len] at hcl ⊢
    obtain ⟨m, hm⟩ : ∃ m, ps.length = m := ⟨_, rfl⟩
    rw [hm] at hcl ⊢
    have hm4 : m ≤ 4096 := by
      have := X.lexF_len S.data.toList (S.data.toList.length + 1 - 0) 0
      have e := HLEX.out
      unfold X.lex at e
      rw [e, size_list] at this
      dsimp only at this
      omega
    have HCL := Lib.hid hcl
    have HM := Lib.hid hm
    clear hcl hm hlex ha hol htl hb1 hm1 hS
    go_wp2_with fail
    clear c40 c41 p4
    go_loopg [9, 10] (m + 1) (fun gk v9 v10 wr => ∃ (i a : Nat), gk + i = m + 1 ∧ v9 = .int .i64 (a : Nat) ∧ v10 = .int .i64 (i : Nat) ∧ a ≤ S.size ∧ Hid (i ≤ m → X.lex S.data.toList a = (ps.drop i, 0, at_)) ∧ Below W1.heap.size W1 wr)
    case atStart => exact ⟨0, 0, by omega, rfl, rfl, Nat.zero_le _, Lib.hid (fun _ => by rw [HLEX.out]; rfl), Below.refl _ _⟩
    case round =>
      obtain ⟨i, a, hi, rfl, rfl, haS, HI, hS⟩ := hrel
      by_cases him : i ≤ m
      · have hlx := HI.out him
        have hiI : (i : Int) ≤ m := by omega
        have hi0 : (0 : Int) ≤ i := by omega
        have hcov := X.lex_cov S.data.toList a _ _ (by rw [size_list]; exact haS) hlx
        by_cases hilt : i < m
        · obtain ⟨g, rfl, hc⟩ := HCL.out (by omega)
          obtain ⟨B1, m1, d1', _, a1, _, _, a4, _⟩ := hc i hilt
          rw [X.tks_get _ _ _ (by rw [HM.out]; exact hilt)] at a1 a4
          dsimp only at a1 a4
          obtain ⟨⟨p0, pa, pn⟩, hp⟩ : ∃ p, ps.getD i (0, 0, 0) = p := ⟨_, rfl⟩
          have hdr : ps.drop i = (p0, pa, pn) :: ps.drop (i + 1) := by
            rw [← hp, List.drop_eq_getElem_cons (by rw [HM.out]; exact hilt)]
            simp [List.getD, HM.out, hilt]
          rw [hdr] at hcov
          rw [hp] at a1 a4
          dsimp only at a1 a4 hcov
          obtain ⟨k1, k2, k3, k4, k5⟩ := hcov
          rw [size_list] at k4
          obtain ⟨T, hT⟩ : ∃ T : ByteArray, T = ⟨((S.data.toList.drop pa).take pn).toArray⟩ := ⟨_, rfl⟩
          rw [← hT] at a1
          have hTs : T.size = pn := by rw [← size_list, hT]; simp; omega
          have hTe : S.extract pa (pa + T.size) = T := by
            apply ByteArray.ext
            apply Array.toList_inj.1
            rw [X.sub_list, hTs, hT]
          replace a1 := keep_cell a1 hS
          replace a4 := keep_cell a4 hS
          subst hTs
          have HBL := Lib.hid k2
          have HNX := Lib.hid k5
          have hT0 : (T.toList == []) = false := by
            cases hh : T.toList with
            | nil => rw [ByteArray.toList_eq] at hh; have := size_list (S := T); rw [hh] at this; simp at this; omega
            | cons _ _ => rfl
          have q1 : decide ((pa : Int) < a) = false := decide_eq_false (by omega)
          have q2 : decide ((pa : Int) > S.size) = false := decide_eq_false (by omega)
          have q3 : decide ((S.size : Int) < pa) = false := decide_eq_false (by omega)
          have q4 : decide ((pa : Int) + T.size > S.size) = false := decide_eq_false (by omega)
          have q5 : decide ((S.size : Int) < pa + T.size) = false := decide_eq_false (by omega)
          have q6 : (pa : Int) + T.size ≤ S.size := by omega
          have q7 : (0 : Int) ≤ pa := by omega
          have q8 : (i : Int) < m := by omega
          have q9 : (S.size : Int) ≤ 4096 := by omega
          have t2 : (T.toList != T.toList) = false := by simp
          have q10 : (a : Int) ≤ pa := by omega
          clear hc hdr hp hT k2 k5 hlx
          go_wp2_with fail
          go_loopg [9] (pa - a) (fun gj v9 wq => ∃ b : Nat, gj + b = pa ∧ v9 = .int .i64 (b : Nat) ∧ a ≤ b ∧ wq = wr)
          case atStart => exact ⟨a, by omega, rfl, Nat.le_refl _, rfl⟩
          case round =>
            obtain ⟨b, hb, rfl, hab, rfl⟩ := hrel
            by_cases hbE : b < pa
            · have hbS : b < S.size := by omega
              have hby := getD_byte hbS
              have hbl := HBL.out b hab hbE
              rw [hby] at hbl
              have hb0 : (0 : Int) ≤ b := by omega
              have hbi : (b : Int) < S.size := by omega
              have hbE' : (b : Int) < pa := by omega
              rcases X.blank_ne _ hbl with e1 | ⟨e1, e2⟩ | ⟨e1, e2, e3⟩ | ⟨e1, e2, e3, e4⟩
              all_goals
                clear hbl hby
                go_wp2_with fail
                go_roundg (gk - 1)
                case measure => omega
                case rel => exact ⟨b + 1, by omega, by go_num, by omega, rfl⟩
            · obtain rfl : b = pa := by omega
              go_wp2_with fail
              go_quiet (fail)
              go_wp2_with fail
              go_roundg (m - i)
              case measure => omega
              case rel => exact ⟨i + 1, b + T.size, by omega, by go_num, by go_num, by omega, Lib.hid (fun _ => HNX.out), below_drewN hS _⟩
        · obtain rfl : i = m := by omega
          have hd : ps.drop i = [] := by rw [← HM.out]; simp
          rw [hd] at hcov
          dsimp only at hcov
          rw [size_list] at hcov
          have HBL := Lib.hid hcov
          have q1 : decide ((S.size : Int) < a) = false := decide_eq_false (by omega)
          have q2 : decide ((S.size : Int) > S.size) = false := decide_eq_false (by omega)
          have q9 : (S.size : Int) ≤ 4096 := by omega
          have q10 : (a : Int) ≤ S.size := by omega
          clear hcov hd hlx
          go_wp2_with fail
          go_loopg [9] (S.size - a) (fun gj v9 wq => ∃ b : Nat, gj + b = S.size ∧ v9 = .int .i64 (b : Nat) ∧ a ≤ b ∧ wq = wr)
          case atStart => exact ⟨a, by omega, rfl, Nat.le_refl _, rfl⟩
          case round =>
            obtain ⟨b, hb, rfl, hab, rfl⟩ := hrel
            by_cases hbE : b < S.size
            · have hbS : b < S.size := by omega
              have hby := getD_byte hbS
              have hbl := HBL.out b hab hbE
              rw [hby] at hbl
              have hb0 : (0 : Int) ≤ b := by omega
              have hbi : (b : Int) < S.size := by omega
              have hbE' : (b : Int) < S.size := by omega
              rcases X.blank_ne _ hbl with e1 | ⟨e1, e2⟩ | ⟨e1, e2, e3⟩ | ⟨e1, e2, e3, e4⟩
              all_goals
                clear hbl hby
                go_wp2_with fail
                go_roundg (gk - 1)
                case measure => omega
                case rel => exact ⟨b + 1, by omega, by go_num, by omega, rfl⟩
            · obtain rfl : b = S.size := by omega
              go_wp2_with fail
              go_roundg 0
              case measure => omega
              case rel => exact ⟨i + 1, _, by omega, rfl, by go_num, Nat.le_refl _, Lib.hid (fun h => absurd h (by omega)), hS⟩
      · obtain rfl : i = m + 1 := by omega
        replace hbw := below_on hbw hS
        go_wp2_with (go_at_call 12; refine (known_l _).mono ?_; rintro e w9 ⟨rfl, hb9⟩; replace hbw := below_on hbw hb9)
        go_ret
        exact ⟨rfl, hbw⟩
  · obtain ⟨rfl, hat, e2, hans, htx⟩ := X.ahead ha h0
    rw [size_list] at hat
    have hne : ((code : Int) != 0) = true := by simp; omega
    obtain ⟨ts, hts⟩ : ∃ ts, (X.tokens S.data.toList).1 = ts := ⟨_, rfl⟩
    have htl0 : ts.length ≤ 4096 := by rw [← hts]; exact X.tokens_le _
    rw [hts] at hans htx
    have HX := Lib.hid (X.pre_list (S := S) (k := at_))
    have HANS := Lib.hid hans
    have HTX := Lib.hid htx
    have HTS := Lib.hid hts
    have hl0 : rsl.length = 0 := htl.1
    obtain ⟨A0, c0, rfl⟩ := hol.slice
    rw [hl0]
    obtain ⟨_, c40, c41⟩ := p4.facts2
    have d1 : decide ((at_ : Int) < 0) = false := decide_eq_false (by omega)
    have d2 : decide ((at_ : Int) > S.size) = false := decide_eq_false (by omega)
    have d3 : decide ((S.size : Int) < at_) = false := decide_eq_false (by omega)
    have hai : (at_ : Int) ≤ S.size := by omega
    clear hans htx hts htl hol ha
    go_upto_region 6 with (go_at_call 9; refine (tokens_x _ (S.extract 0 at_)).mono ?_; rintro e w3 ⟨va, rsa, rfl, hoa, hta, hb3⟩; rw [HX.out, HANS.out]; rw [HX.out, HANS.out] at hta; dsimp only at hta ⊢)
    obtain ⟨W3, hW3, p6, hm3, _⟩ := mis_new w3 0 e2
    have hz0 : ((0 : Nat) : Int) = 0 := rfl
    rw [hz0] at hW3 p6 ⊢
    rw [← hW3]
    obtain ⟨b6, hb6⟩ : ∃ b, b = w3.heap.size := ⟨_, rfl⟩
    rw [← hb6] at p6 ⊢
    have hark := (tok_arr hoa hta).below hm3
    replace hbw := below_on hbw (below_on hb3 hm3)
    clear hW3 hb6 hoa hta hb3 hm3 p4 c40 c41
    go_upto_region 7 with (go_at_call 16; refine (over_x _ S (-1)).mono ?_; rintro e w4 ⟨vb, rsb, rfl, hob, htb, hb4⟩; rw [show ovr (X.tokens S.data.toList).1 (-1) = ts from HTS.out] at htb)
    have harb := tok_arr (hob.le (Nat.zero_le _)) htb
    replace p6 := p6.below hb4
    replace hark := hark.below hb4
    replace hbw := below_on hbw hb4
    obtain ⟨_, c60, c61⟩ := p6.facts2
    obtain ⟨Aa, ca, rfl, hca⟩ := hark
    obtain ⟨Ab, cb, rfl, hcb⟩ := harb
    rw [X.tks_len] at hca hcb ⊢
    rw [X.tks_len]
    obtain ⟨k, hk⟩ : ∃ k, ts.length = k := ⟨_, rfl⟩
    rw [hk] at hca hcb htl0 ⊢
    have HK := Lib.hid hk
    have HCA := Lib.hid hca
    have HCB := Lib.hid hcb
    have tkk : ((k : Int) != k) = false := by simp
    clear hk hca hcb hob htb hb4
    go_wp2_with fail
    clear c60 c61 p6
    go_loopg [8] k (fun gk v8 wr => ∃ j : Nat, gk + j = k ∧ v8 = .int .i64 (j : Nat) ∧ Below w4.heap.size w4 wr)
    case atStart => exact ⟨0, rfl, rfl, Below.refl _ _⟩
    case round =>
      obtain ⟨j, hj, rfl, hS⟩ := hrel
      by_cases hjk : j < k
      · obtain ⟨g, rfl, hc⟩ := HCA.out (by omega)
        obtain ⟨g', rfl, hc'⟩ := HCB.out (by omega)
        obtain ⟨B1, m1, d1', _, a1, _, _, a4, _⟩ := hc j hjk
        obtain ⟨B2, m2, d2', _, b1, _, _, b4, _⟩ := hc' j hjk
        rw [X.tks_get _ _ _ (by rw [HK.out]; exact hjk)] at a1 a4 b1 b4
        dsimp only at a1 a4 b1 b4
        have hte := HTX.out j (by rw [HK.out]; exact hjk)
        unfold X.text at hte
        rw [hte] at a1
        obtain ⟨T, hT⟩ : ∃ T : ByteArray, T = ⟨((S.data.toList.drop (ts.getD j (0, 0, 0)).2.1).take (ts.getD j (0, 0, 0)).2.2).toArray⟩ := ⟨_, rfl⟩
        rw [← hT] at a1 b1
        obtain ⟨p, hp⟩ : ∃ p, (ts.getD j (0, 0, 0)).2.1 = p := ⟨_, rfl⟩
        rw [hp] at a4 b4
        replace a1 := keep_cell a1 hS
        replace a4 := keep_cell a4 hS
        replace b1 := keep_cell b1 hS
        replace b4 := keep_cell b4 hS
        have hj0 : (0 : Int) ≤ j := by omega
        have hji : (j : Int) < k := by omega
        have t2 : (T.toList != T.toList) = false := by simp
        have t3 : ((p : Int) != p) = false := by simp
        clear hc hc' hte hT hp
        go_wp2_with fail
        go_quiet (fail)
        go_wp2_with fail
        go_roundg (gk - 1)
        case measure => omega
        case rel => exact ⟨j + 1, by omega, by go_num, below_drewN hS _⟩
      · obtain rfl : j = k := by omega
        replace hbw := below_on hbw hS
        go_wp2_with (go_at_call 12; refine (known_l _).mono ?_; rintro e w9 ⟨rfl, hb9⟩; replace hbw := below_on hbw hb9)
        go_ret
        exact ⟨rfl, hbw⟩
end Go.Proofs.YtkioaogpmifgeaaDoor

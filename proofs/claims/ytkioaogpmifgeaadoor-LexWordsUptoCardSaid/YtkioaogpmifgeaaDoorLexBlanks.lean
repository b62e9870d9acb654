/-
  The walk of riddlelaw03.LexBlanks: it answers true.
-/
import Derived.Test.YtkioaogpmifgeaaDoorLexU
import Derived.Test.YtkioaogpmifgeaaDoorLexTokens
import Derived.Laws.Concat
namespace Go.Proofs.YtkioaogpmifgeaaDoor
open Go.RowKit

theorem at_z {w : World} {Bg : Nat} {A : Option Addr} {n c : Nat} (hB : Blk w Bg 48 #[.slice A n c]) (hA : ArrJ w A n) (hn : n ≤ 9223372036854775807) (i : Nat) (z : Int) (hz : z = (i : Nat)) (hi : i ≤ 9223372036854775806) :
    Calls Tryd.prog 20 #[.int .i64 z, .pointer (some ⟨Bg, 0, none⟩)] w fun e w' => ∃ G : ByteArray, e = .returned (.string G) ∧ X.okGap G.data.toList ∧ G.size ≤ 3 ∧ Below w.heap.size w w' := by
  subst hz
  exact at_c hB hA hn i hi
theorem X.join_snoc (a : List (List UInt8)) (gs : List (List UInt8)) (t g : List UInt8) (h : gs.length = a.length) : X.join ((a ++ [t]).zip (gs ++ [g])) = X.join (a.zip gs) ++ (t ++ g) := by
  rw [List.zip_append h.symm]
  simp [X.join]
theorem X.take_snoc (l : List UInt8) (ps : List (Nat × Nat × Nat)) (k : Nat) (h : k < ps.length) : (ps.take (k + 1)).map (X.text l) = (ps.take k).map (X.text l) ++ [X.text l (ps.getD k (0, 0, 0))] := by
  rw [List.take_succ_eq_append_getElem h, List.map_append]
  simp [List.getD, h]
theorem X.ans_ok {l : List UInt8} {ps : List (Nat × Nat × Nat)} {a : Nat} (h : X.ans l = (ps, 0, a)) : l.length ≤ 4096 ∧ X.lex l 0 = (ps, 0, a) := by
  have h0 : X.tokens l = (ps, 0, a) := by
    unfold X.ans at h
    split at h
    · exact h
    · rename_i hne
      injection h with _ h2
      rw [h2] at hne
      exact absurd rfl hne
  unfold X.tokens at h0
  split at h0
  · injection h0 with _ h2
    injection h2 with h2 _
    cases h2
  · exact ⟨by omega, h0⟩
set_option maxRecDepth 100000 in
set_option maxHeartbeats 8000000 in
theorem walkLexBlanks (w : World) (S : ByteArray) (hS : S.size ≤ 1048576) (A : Option Addr) (n c : Nat) (hA : ArrJ w A n) (hn : n ≤ 9223372036854775807) :
    Calls Tryd.prog 6 #[.string S, .slice A n c] w fun e w' => e = .returned (.bool true) ∧ Below w.heap.size w w' := by
  obtain ⟨ps, code, at_, ha⟩ : ∃ ps code at_, X.ans S.data.toList = (ps, code, at_) := ⟨_, _, _, rfl⟩
  obtain ⟨W, hW, pB, hbW⟩ : ∃ W : World, W = w.alloc (.cells #[.slice A n c] 48) ∧ Blk W w.heap.size 48 #[.slice A n c] ∧ Below w.heap.size w W := ⟨_, rfl, Blk.new _ _ _, below_alloc1 _ _⟩
  obtain ⟨Bg, hBg⟩ : ∃ b, b = w.heap.size := ⟨_, rfl⟩
  have HW := Lib.hid hW
  have HBG := Lib.hid hBg
  replace hA := hA.below hbW
  rw [← hBg] at pB
  clear hW hBg
  go_enter Tryd.func6, Tryd.ntmps6
  go_upto_region 1 with (fail)
  rw [← HW.out, ← HBG.out]
  go_upto_region 2 with (go_at_call 9; refine (tokens_x _ S).mono ?_; rintro e w1 ⟨vl, rsl, rfl, hol, htl, hb1⟩; rw [ha]; rw [ha] at htl; dsimp only at htl ⊢)
  obtain ⟨W1, hW1, p6, hm1, _⟩ := mis_new w1 code at_
  rw [← hW1]
  obtain ⟨b6, hb6⟩ : ∃ b, b = w1.heap.size := ⟨_, rfl⟩
  rw [← hb6] at p6 ⊢
  have harr := (tok_arr hol htl).below hm1
  have HLS := Lib.hid htl.lens
  have hbr := below_on hb1 hm1
  replace pB := pB.below hbr
  replace hA := hA.below hbr
  have hbw := below_on hbW hbr
  obtain ⟨_, c60, c61⟩ := p6.facts2
  clear hW1 hb6 hol htl hb1 hm1 hbr hbW HW HBG
  by_cases h0 : code = 0
  · subst h0
    obtain ⟨hl4, hlex⟩ := X.ans_ok ha
    rw [size_list] at hl4
    have HLEX := Lib.hid hlex
    clear hlex ha
    go_upto_region 5 with (go_at_call 12; refine (known_l _).mono ?_; rintro e w2 ⟨rfl, hb2⟩; replace harr := harr.below hb2; replace pB := pB.below hb2; replace hA := hA.below hb2; replace hbw := below_on hbw hb2)
    go_upto_region 6 with (go_at_call 20; refine (at_z pB hA hn 0 _ rfl (by omega)).mono ?_; rintro e w3 ⟨G0, rfl, hok0, hgs0, hb3⟩; replace harr := harr.below hb3; replace pB := pB.below hb3; replace hA := hA.below hb3; replace hbw := below_on hbw hb3)
    have HOK0 := Lib.hid hok0
    obtain ⟨Al, cl, hvl, hcl⟩ := harr
    subst hvl
    rw [X.tks_len] at hcl ⊢
    obtain ⟨m, hm⟩ : ∃ m, ps.length = m := ⟨_, rfl⟩
    rw [hm] at hcl ⊢
    have hm4 : m ≤ 4096 := by
      have := X.lexF_len S.data.toList (S.data.toList.length + 1 - 0) 0
      have e := HLEX.out
      unfold X.lex at e
      rw [e, size_list] at this
      dsimp only at this
      omega
    have HCL := Lib.hid hcl
    have HM := Lib.hid hm
    have hsz3 := hbw.size
    clear hcl hm hok0 c60 c61 p6
    go_wp2_with fail
    go_loopg [8, 9] m (fun gk v8 v9 wr => ∃ (k : Nat) (s : ByteArray) (gs : List (List UInt8)), gk + k = m ∧ v9 = .int .i64 (k : Nat) ∧ v8 = .string s ∧ Hid (s.data.toList = G0.data.toList ++ X.join (((ps.take k).map (X.text S.data.toList)).zip gs)) ∧ gs.length = k ∧ Hid (∀ x ∈ gs, X.okGap x) ∧ s.size ≤ 3 + k * 4099 ∧ Below w3.heap.size w3 wr)
    case atStart => exact ⟨0, G0, [], rfl, rfl, rfl, Lib.hid (by simp [X.join]), rfl, Lib.hid (by simp), by omega, Below.refl _ _⟩
    case round =>
      obtain ⟨k, s, gs, hk, rfl, rfl, HSX, hgl, HGS, hss, hS⟩ := hrel
      by_cases hkm : k < m
      · obtain ⟨g, rfl, hc⟩ := HCL.out (by omega)
        obtain ⟨B1, m1, d1, _, a1, _⟩ := hc k hkm
        rw [X.tks_get _ _ _ (by rw [HM.out]; exact hkm)] at a1
        dsimp only at a1
        obtain ⟨T, hT⟩ : ∃ T : ByteArray, T = ⟨((S.data.toList.drop (ps.getD k (0, 0, 0)).2.1).take (ps.getD k (0, 0, 0)).2.2).toArray⟩ := ⟨_, rfl⟩
        rw [← hT] at a1
        have hTl : T.data.toList = X.text S.data.toList (ps.getD k (0, 0, 0)) := by rw [hT]; rfl
        have hTs : T.size ≤ 4096 := by
          rw [← size_list, hTl]; unfold X.text; rw [List.length_take, List.length_drop, size_list]; omega
        have HTL := Lib.hid hTl
        have hk0 : (0 : Int) ≤ k := by omega
        have hki : (k : Int) < m := by omega
        have hk4 : (k : Int) ≤ 4096 := by omega
        have hs1 : ¬ (9223372036854775807 < s.size + T.size) := by omega
        have hwk : IntKind.i64.wrap ((k : Int) + 1) = (k : Int) + 1 := by simp [IntKind.wrap, IntKind.bits, IntKind.signed]; omega
        have hS0 : ∀ w', Below w3.heap.size w3 w' → (fun w' => w'.cell? ⟨g, k * 5 + 1, none⟩ = some (.string T) ∧ Below w3.heap.size w3 w') w' := fun w' h => ⟨keep_cell a1 h, h⟩
        have HS0 := Lib.hid hS0
        have HAT := Lib.hid (fun (w' : World) (h : Below w3.heap.size w3 w') (z : Int) (hz : z = ((k + 1 : Nat) : Int)) => at_z (pB.below h) (hA.below h) hn (k + 1) z hz (by omega))
        clear hS0 a1 hc hT hTl
        go_upto_region 9 with (fail)
        go_region_held3 (fun w' => w'.cell? ⟨g, k * 5 + 1, none⟩ = some (.string T) ∧ Below w3.heap.size w3 w')
          (first | exact HS0.out _ (by with_reducible assumption) | exact HS0.out _ (Below.drew (by with_reducible assumption)))
          (first
            | (go_at_call 20; refine (HAT.out _ (s_below (by with_reducible assumption)) _ (by first | omega | (rw [hwk]; omega))).mono ?_; rintro e wn ⟨G, rfl, hok, hgs, hb⟩; have hS2 := below_on (s_below (by with_reducible assumption)) hb; clear hS; have hS := hS2; clear hS2 hb; have hs2 : ¬ (9223372036854775807 < s.size + T.size + G.size) := by omega))
        have hsn : (s ++ T ++ G).data.toList = G0.data.toList ++ X.join (((ps.take (k + 1)).map (X.text S.data.toList)).zip (gs ++ [G.data.toList])) := by
          rw [X.take_snoc _ _ _ (by rw [HM.out]; exact hkm), X.join_snoc _ _ _ _ (by rw [List.length_map, List.length_take, HM.out]; omega), ← HTL.out]
          rw [show (s ++ T ++ G).data.toList = s.data.toList ++ T.data.toList ++ G.data.toList by simp [ByteArray.data_append], HSX.out]
          simp
        have hgn : ∀ x ∈ gs ++ [G.data.toList], X.okGap x := fun x hx => by
          rcases List.mem_append.1 hx with h | h
          · exact HGS.out x h
          · have : x = G.data.toList := by simpa using h
            rw [this]; exact hok
        have HSN := Lib.hid hsn
        have HGN := Lib.hid hgn
        clear hsn hgn
        go_wp2_with fail
        go_roundg (gk - 1)
        case measure => omega
        case rel => exact ⟨k + 1, s ++ T ++ G, gs ++ [G.data.toList], by omega, by go_num, rfl, HSN, by rw [List.length_append]; simp; omega, HGN, by simp; omega, hS⟩
      · obtain rfl : k = m := by omega
        have hsz : (s.size : Int) ≤ 16797708 := by omega
        by_cases hbig : 4096 < s.size
        · have d1 : decide ((s.size : Int) > 4096) = true := decide_eq_true (by omega)
          have d2 : decide ((4096 : Int) < s.size) = true := decide_eq_true (by omega)
          go_wp2_with fail
          go_ret
          exact ⟨rfl, below_on hbw hS⟩
        · have d1 : decide ((s.size : Int) > 4096) = false := decide_eq_false (by omega)
          have d2 : decide ((4096 : Int) < s.size) = false := decide_eq_false (by omega)
          have hq : ∃ qs, X.ans s.data.toList = (qs, 0, 0) ∧ qs.length = k ∧ ∀ i, i < k → (qs.getD i (0, 0, 0)).1 = (ps.getD i (0, 0, 0)).1 ∧ X.text s.data.toList (qs.getD i (0, 0, 0)) = X.text S.data.toList (ps.getD i (0, 0, 0)) := by
            have hps : ∀ p ∈ ps, X.one (S.data.toList.drop p.2.1) = (0, p.1, p.2.2) := fun p hp => by
              have e := HLEX.out
              unfold X.lex at e
              exact X.lexF_one _ _ _ p (by rw [e]; exact hp)
            obtain ⟨qs, e1, e2, e3⟩ := X.lex_join S.data.toList ps gs s.data.toList [] G0.data.toList (by rw [HSX.out, List.take_of_length_le (by rw [HM.out]; exact Nat.le_refl _)]; rfl) HOK0.out (by rw [HM.out]; exact hgl) HGS.out hps
            rw [HM.out] at e2 e3
            refine ⟨qs, ?_, e2, e3⟩
            have e4 : X.tokens s.data.toList = (qs, 0, 0) := by unfold X.tokens; rw [if_neg (by rw [size_list]; exact hbig)]; exact e1
            unfold X.ans
            rw [e4]
            rfl
          obtain ⟨qs, hqa, hql, hqe⟩ := hq
          have HQE := Lib.hid hqe
          clear hqe
          go_upto_region 13 with (go_at_call 9; refine (tokens_x _ s).mono ?_; rintro e w5 ⟨vk, rsk, rfl, hok5, htk5, hb5⟩; rw [hqa]; rw [hqa] at htk5; dsimp only at htk5 ⊢)
          have hz0 : ((0 : Nat) : Int) = 0 := rfl
          rw [hz0]
          obtain ⟨W6, hW6, p11, hm6, _⟩ := mis_new w5 0 0
          rw [hz0] at hW6 p11
          rw [← hW6]
          obtain ⟨b11, hb11⟩ : ∃ b, b = w5.heap.size := ⟨_, rfl⟩
          rw [← hb11] at p11 ⊢
          have hark := (tok_arr hok5 htk5).below hm6
          have h36 := below_on hS (below_on hb5 hm6)
          have hbw6 := below_on hbw h36
          obtain ⟨_, c110, c111⟩ := p11.facts2
          obtain ⟨Ak, ck, hvk, hck⟩ := hark
          subst hvk
          rw [X.tks_len, hql] at hck ⊢
          have HCK := Lib.hid hck
          have tkk : ((k : Int) != k) = false := by simp
          clear hW6 hb11 hok5 htk5 hb5 hm6 hck hS p11 hqa hsz
          go_wp2_with fail
          clear c110 c111
          go_loopg [12] k (fun gk v12 wq => ∃ j : Nat, gk + j = k ∧ v12 = .int .i64 (j : Nat) ∧ Below W6.heap.size W6 wq)
          case atStart => exact ⟨0, rfl, rfl, Below.refl _ _⟩
          case round =>
            obtain ⟨j, hj, rfl, hS⟩ := hrel
            by_cases hjk : j < k
            · obtain ⟨g, rfl, hc⟩ := HCL.out (by omega)
              obtain ⟨g', rfl, hc'⟩ := HCK.out (by omega)
              obtain ⟨B1, m1, d1', a0, a1, a2, a3, _, a5⟩ := hc j hjk
              obtain ⟨B2, m2, d2', b0, b1, b2, b3, _, b5⟩ := hc' j hjk
              rw [X.tks_get _ _ _ (by rw [HM.out]; exact hjk)] at a0 a1 a5
              rw [X.tks_get _ _ _ (by rw [hql]; exact hjk)] at b0 b1 b5
              obtain ⟨hq1, hq2⟩ := HQE.out j hjk
              unfold X.text at hq2
              dsimp only at a0 a1 a5 b0 b1 b5
              rw [hq1] at b0 b5
              rw [hq2] at b1 b5
              obtain ⟨kd, hkd⟩ : ∃ kd, (ps.getD j (0, 0, 0)).1 = kd := ⟨_, rfl⟩
              obtain ⟨tl, htl⟩ : ∃ tl, (S.data.toList.drop (ps.getD j (0, 0, 0)).2.1).take (ps.getD j (0, 0, 0)).2.2 = tl := ⟨_, rfl⟩
              rw [hkd] at a0 b0 a5 b5
              rw [htl] at a1 b1 a5 b5
              obtain ⟨T, hT⟩ : ∃ T : ByteArray, T = ⟨tl.toArray⟩ := ⟨_, rfl⟩
              rw [← hT] at a1 b1
              obtain ⟨xs, hxs⟩ : ∃ xs, (if kd = 1 then N.ofN (N.val tl) else []) = xs := ⟨_, rfl⟩
              rw [hxs] at a5 b5
              have hml := a5.len
              have hmc := a5.cap
              obtain rfl : m2 = m1 := by rw [← b5.len, ← a5.len]
              have hj0 : (0 : Int) ≤ j := by omega
              have hji : (j : Int) < k := by omega
              have t0 : ((kd : Int) != kd) = false := by simp
              have t2 : (T.toList != T.toList) = false := by simp
              have hm1 : m2 ≤ 9223372036854775807 := by
                have := HLS.out j (by rw [X.tks_len, HM.out]; exact hjk)
                rw [X.tks_get _ _ _ (by rw [HM.out]; exact hjk)] at this
                dsimp only at this
                rw [hkd, htl, hxs] at this
                omega
              have HST := Lib.hid (fun (w' : World) (h : Below W6.heap.size W6 w') => sameInt_l (b5.below h) ((a5.below h36).below h) hm1)
              have hS0 : ∀ w', Below W6.heap.size W6 w' → (fun w' => ((w'.cell? ⟨g, j * 5, none⟩ = some (.int .i64 (kd : Nat)) ∧ w'.cell? ⟨g, j * 5 + 1, none⟩ = some (.string T) ∧ w'.cell? ⟨g, j * 5 + 2, none⟩ = some (.bool false) ∧ w'.cell? ⟨g, j * 5 + 3, none⟩ = some (.slice B1 m2 d1')) ∧
                  (w'.cell? ⟨g', j * 5, none⟩ = some (.int .i64 (kd : Nat)) ∧ w'.cell? ⟨g', j * 5 + 1, none⟩ = some (.string T) ∧ w'.cell? ⟨g', j * 5 + 2, none⟩ = some (.bool false) ∧ w'.cell? ⟨g', j * 5 + 3, none⟩ = some (.slice B2 m2 d2'))) ∧ Below W6.heap.size W6 w') w' :=
                fun w' h => ⟨⟨⟨keep_cell (keep_cell a0 h36) h, keep_cell (keep_cell a1 h36) h, keep_cell (keep_cell a2 h36) h, keep_cell (keep_cell a3 h36) h⟩, ⟨keep_cell b0 h, keep_cell b1 h, keep_cell b2 h, keep_cell b3 h⟩⟩, h⟩
              have HS0 := Lib.hid hS0
              clear hS0 a0 a1 a2 a3 a5 b0 b1 b2 b3 b5 hc hc' hq1 hq2 hkd htl hT hxs hml hmc
              go_upto_region 18 with (fail)
              go_region_held3 (fun w' => ((w'.cell? ⟨g, j * 5, none⟩ = some (.int .i64 (kd : Nat)) ∧ w'.cell? ⟨g, j * 5 + 1, none⟩ = some (.string T) ∧ w'.cell? ⟨g, j * 5 + 2, none⟩ = some (.bool false) ∧ w'.cell? ⟨g, j * 5 + 3, none⟩ = some (.slice B1 m2 d1')) ∧
                  (w'.cell? ⟨g', j * 5, none⟩ = some (.int .i64 (kd : Nat)) ∧ w'.cell? ⟨g', j * 5 + 1, none⟩ = some (.string T) ∧ w'.cell? ⟨g', j * 5 + 2, none⟩ = some (.bool false) ∧ w'.cell? ⟨g', j * 5 + 3, none⟩ = some (.slice B2 m2 d2'))) ∧ Below W6.heap.size W6 w')
                (first | exact HS0.out _ (by with_reducible assumption) | exact HS0.out _ (Below.drew (by with_reducible assumption)))
                (first
                  | (go_at_call 22; refine (HST.out _ (s_below (by with_reducible assumption))).mono ?_; rintro e wn ⟨rfl, hb⟩; have hS2 := below_on (s_below (by with_reducible assumption)) hb; clear hS; have hS := hS2; clear hS2 hb))
              go_wp2_with fail
              go_roundg (gk - 1)
              case measure => omega
              case rel => exact ⟨j + 1, by omega, by go_num, hS⟩
            · obtain rfl : j = k := by omega
              go_wp2_with fail
              go_ret
              exact ⟨rfl, below_on hbw6 hS⟩
  · have hne : ((code : Int) != 0) = true := by simp; omega
    go_wp2_with (go_at_call 12; refine (known_l _).mono ?_; rintro e w2 ⟨rfl, hb2⟩; replace hbw := below_on hbw hb2)
    go_ret
    exact ⟨rfl, hbw⟩
end Go.Proofs.YtkioaogpmifgeaaDoor

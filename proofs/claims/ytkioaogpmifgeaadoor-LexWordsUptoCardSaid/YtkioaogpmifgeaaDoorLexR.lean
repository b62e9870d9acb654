/-
  riddleref03.row, sign: contracts.
-/
import Derived.Test.YtkioaogpmifgeaaDoorLexCR
import Derived.Deep.Cut
namespace Go.Proofs.YtkioaogpmifgeaaDoor
open Go.RowKit

/-- A word and a number: the results. -/
theorem results_rtk {fn : Func} {p u : Tmp} (h : fn.results = #[.cell p 46, .tmp u]) (tmps : Array Value) (w : World) (g : Nat) (t : TypeId) (a0 a1 a2 a3 a4 : Value)
    (hp : tmps.getD p undef = .pointer (some ⟨g, 0, none⟩)) (hg : Blk w g t #[a0, a1, a2, a3, a4]) :
    (results fn tmps).run Tryd.prog w = .ok (.tuple #[.agg #[a0, a1, a2, a3, a4], tmps.getD u undef]) w := by
  have hp' : tmps[p]?.getD undef = .pointer (some ⟨g, 0, none⟩) := by simpa using hp
  simp [results, h, hp', asAddr, run_loadVar_row w g _ 46 _ _ _ hg Tryd.underlying46 rfl sizeRtk]
set_option maxRecDepth 100000 in
set_option maxHeartbeats 4000000 in
theorem rowt_r (w : World) (S : ByteArray) (h0 : 0 < S.size) (hS : S.size ≤ 4096) {r1 r2 : Nat} (hR : X.rowed S.data.toList = (r1, r2)) :
    Calls Tryd.prog 27 #[.string S] w fun e w' => ∃ T A n c, e = .returned (.tuple #[.agg #[.int .i64 (r2 : Nat), .string T, .bool false, .slice A n c, .int .i64 0], .int .i64 (r1 : Nat)]) ∧ (r1 = 0 → T = S ∧ MagOf w.heap.size w' (.slice A n c) r2 S.data.toList) ∧ Below w.heap.size w w' := by
  have hhd : S.data.toList.headD 0 = S[0]'h0 := by
    have h1 := getD_byte h0
    cases hh : S.data.toList with
    | nil => have := size_list S; rw [hh] at this; simp only [List.length_nil] at this; omega
    | cons c l => rw [hh] at h1; simpa [List.getD] using h1
  have h0i : (0 : Int) < S.size := by omega
  have p2 := Blk.new w 46 #[.int .i64 0, .string ⟨#[]⟩, .bool false, .slice none 0 0, .int .i64 0]
  obtain ⟨W, hW, hbw⟩ : ∃ W : World, W = w.alloc (.cells #[.int .i64 0, .string ⟨#[]⟩, .bool false, .slice none 0 0, .int .i64 0] 46) ∧ Below w.heap.size w W := ⟨_, rfl, below_alloc1 _ _⟩
  rw [← hW] at p2
  have HW := Lib.hid hW
  have HR := Lib.hid hR
  clear hW hR
  cases hd : X.digit (S[0]'h0)
  · cases hw : X.word S.data.toList
    · cases hn : X.name S.data.toList
      · have e1 : X.rowed S.data.toList = (30, 0) := by unfold X.rowed; rw [hhd, hd, hw, hn]; rfl
        have E1 := Lib.hid e1
        clear e1 hhd
        go_enter Tryd.func27, Tryd.ntmps27
        go_upto_region 1 with (fail)
        rw [← HW.out]
        obtain ⟨⟨f20, f21, f22, f23, f24⟩, c20, c21, c22, c23, c24⟩ := p2.facts
        go_wp2_with (first
          | (go_at_call 36; refine (digit_r _ _).mono ?_; rintro e w3 ⟨rfl, rfl⟩; rw [hd])
          | (go_at_call 33; refine (is_r _ _).mono ?_; rintro e w3 ⟨rfl, rfl⟩; rw [hw])
          | (go_at_call 19; refine (isname_r _ _ (by omega)).mono ?_; rintro e w3 ⟨rfl, rfl⟩; rw [hn]))
        refine bodyPost_ret (results_rtk rfl _ _ _ _ _ _ _ _ _ rfl (p2.set5 _ _ _ _ _)) rfl ?_
        have e1 := E1.out
        have e2 := HR.out
        rw [e1] at e2
        injection e2 with e2 e3
        subst e2; subst e3
        exact ⟨_, _, _, _, rfl, (fun h => by cases h), below5 hbw (Nat.le_refl _) _ _ _ _ _⟩
      · have e1 : X.rowed S.data.toList = (0, 2) := by unfold X.rowed; rw [hhd, hd, hw, hn]; rfl
        have E1 := Lib.hid e1
        clear e1 hhd
        go_enter Tryd.func27, Tryd.ntmps27
        go_upto_region 1 with (fail)
        rw [← HW.out]
        obtain ⟨⟨f20, f21, f22, f23, f24⟩, c20, c21, c22, c23, c24⟩ := p2.facts
        go_wp2_with (first
          | (go_at_call 36; refine (digit_r _ _).mono ?_; rintro e w3 ⟨rfl, rfl⟩; rw [hd])
          | (go_at_call 33; refine (is_r _ _).mono ?_; rintro e w3 ⟨rfl, rfl⟩; rw [hw])
          | (go_at_call 19; refine (isname_r _ _ (by omega)).mono ?_; rintro e w3 ⟨rfl, rfl⟩; rw [hn]))
        refine bodyPost_ret (results_rtk rfl _ _ _ _ _ _ _ _ _ rfl (p2.set5 _ _ _ _ _)) rfl ?_
        have e1 := E1.out
        have e2 := HR.out
        rw [e1] at e2
        injection e2 with e2 e3
        subst e2; subst e3
        exact ⟨_, _, _, _, rfl, (fun _ => ⟨rfl, MagOf.other (by decide)⟩), below5 hbw (Nat.le_refl _) _ _ _ _ _⟩
    · have e1 : X.rowed S.data.toList = (0, 3) := by unfold X.rowed; rw [hhd, hd, hw]; rfl
      have E1 := Lib.hid e1
      clear e1 hhd
      go_enter Tryd.func27, Tryd.ntmps27
      go_upto_region 1 with (fail)
      rw [← HW.out]
      obtain ⟨⟨f20, f21, f22, f23, f24⟩, c20, c21, c22, c23, c24⟩ := p2.facts
      go_wp2_with (first
        | (go_at_call 36; refine (digit_r _ _).mono ?_; rintro e w3 ⟨rfl, rfl⟩; rw [hd])
        | (go_at_call 33; refine (is_r _ _).mono ?_; rintro e w3 ⟨rfl, rfl⟩; rw [hw])
        | (go_at_call 19; refine (isname_r _ _ (by omega)).mono ?_; rintro e w3 ⟨rfl, rfl⟩; rw [hn]))
      refine bodyPost_ret (results_rtk rfl _ _ _ _ _ _ _ _ _ rfl (p2.set5 _ _ _ _ _)) rfl ?_
      have e1 := E1.out
      have e2 := HR.out
      rw [e1] at e2
      injection e2 with e2 e3
      subst e2; subst e3
      exact ⟨_, _, _, _, rfl, (fun _ => ⟨rfl, MagOf.other (by decide)⟩), below5 hbw (Nat.le_refl _) _ _ _ _ _⟩
  · by_cases hok : N.okTxt S.data.toList
    · have e1 : X.rowed S.data.toList = (0, 1) := by unfold X.rowed; rw [hhd, hd, if_pos rfl, if_pos hok]
      have E1 := Lib.hid e1
      clear e1 hhd
      go_enter Tryd.func27, Tryd.ntmps27
      go_upto_region 1 with (fail)
      rw [← HW.out]
      obtain ⟨⟨f20, f21, f22, f23, f24⟩, c20, c21, c22, c23, c24⟩ := p2.facts
      go_wp2_with (first
        | (go_at_call 36; refine (digit_r _ _).mono ?_; rintro e w3 ⟨rfl, rfl⟩; rw [hd])
        | (go_at_call 37; refine (rparse_own _ S (by omega) hok).mono ?_; rintro e w3 ⟨g, n', c', rfl, hown, hb3⟩; replace hown := hown.mono hbw.size; have p2' := p2.below hb3; replace hbw := below_on hbw hb3; clear f20 f21 f22 f23 f24 c20 c21 c22 c23 c24; obtain ⟨⟨f20, f21, f22, f23, f24⟩, c20, c21, c22, c23, c24⟩ := p2'.facts))
      have hg2 := hown.off p2' (by decide)
      refine bodyPost_ret (results_rtk rfl _ _ _ _ _ _ _ _ _ rfl (p2'.set5 _ _ _ _ _)) rfl ?_
      have e1 := E1.out
      have e2 := HR.out
      rw [e1] at e2
      injection e2 with e2 e3
      subst e2; subst e3
      exact ⟨_, _, _, _, rfl, (fun _ => ⟨rfl, MagOf.num (((((hown.far hg2 0 _).far hg2 1 _).far hg2 2 _).far hg2 3 _).far hg2 4 _)⟩), below5 hbw (Nat.le_refl _) _ _ _ _ _⟩
    · have e1 : X.rowed S.data.toList = (12, 0) := by unfold X.rowed; rw [hhd, hd, if_pos rfl, if_neg hok]
      have E1 := Lib.hid e1
      clear e1 hhd
      go_enter Tryd.func27, Tryd.ntmps27
      go_upto_region 1 with (fail)
      rw [← HW.out]
      obtain ⟨⟨f20, f21, f22, f23, f24⟩, c20, c21, c22, c23, c24⟩ := p2.facts
      go_wp2_with (first
        | (go_at_call 36; refine (digit_r _ _).mono ?_; rintro e w3 ⟨rfl, rfl⟩; rw [hd])
        | (go_at_call 37; refine (rparse_bad _ S (by omega) hok).mono ?_; rintro e w3 ⟨rfl, rfl⟩))
      refine bodyPost_ret (results_rtk rfl _ _ _ _ _ _ _ _ _ rfl (p2.set5 _ _ _ _ _)) rfl ?_
      have e1 := E1.out
      have e2 := HR.out
      rw [e1] at e2
      injection e2 with e2 e3
      subst e2; subst e3
      exact ⟨_, _, _, _, rfl, (fun h => by cases h), below5 hbw (Nat.le_refl _) _ _ _ _ _⟩
theorem X.sgn1_cases (c : UInt8) : (X.sgn1 c = true ∧ ((c.toNat : Int) == 60) = true) ∨ (X.sgn1 c = true ∧ ((c.toNat : Int) == 62) = true ∧ ((c.toNat : Int) == 60) = false) ∨ (X.sgn1 c = true ∧ ((c.toNat : Int) == 61) = true ∧ ((c.toNat : Int) == 60) = false ∧ ((c.toNat : Int) == 62) = false) ∨ (X.sgn1 c = true ∧ ((c.toNat : Int) == 43) = true ∧ ((c.toNat : Int) == 60) = false ∧ ((c.toNat : Int) == 62) = false ∧ ((c.toNat : Int) == 61) = false) ∨ (X.sgn1 c = true ∧ ((c.toNat : Int) == 45) = true ∧ ((c.toNat : Int) == 60) = false ∧ ((c.toNat : Int) == 62) = false ∧ ((c.toNat : Int) == 61) = false ∧ ((c.toNat : Int) == 43) = false) ∨ (X.sgn1 c = true ∧ ((c.toNat : Int) == 42) = true ∧ ((c.toNat : Int) == 60) = false ∧ ((c.toNat : Int) == 62) = false ∧ ((c.toNat : Int) == 61) = false ∧ ((c.toNat : Int) == 43) = false ∧ ((c.toNat : Int) == 45) = false) ∨ (X.sgn1 c = true ∧ ((c.toNat : Int) == 46) = true ∧ ((c.toNat : Int) == 60) = false ∧ ((c.toNat : Int) == 62) = false ∧ ((c.toNat : Int) == 61) = false ∧ ((c.toNat : Int) == 43) = false ∧ ((c.toNat : Int) == 45) = false ∧ ((c.toNat : Int) == 42) = false) ∨ (X.sgn1 c = true ∧ ((c.toNat : Int) == 40) = true ∧ ((c.toNat : Int) == 60) = false ∧ ((c.toNat : Int) == 62) = false ∧ ((c.toNat : Int) == 61) = false ∧ ((c.toNat : Int) == 43) = false ∧ ((c.toNat : Int) == 45) = false ∧ ((c.toNat : Int) == 42) = false ∧ ((c.toNat : Int) == 46) = false) ∨ (X.sgn1 c = true ∧ ((c.toNat : Int) == 41) = true ∧ ((c.toNat : Int) == 60) = false ∧ ((c.toNat : Int) == 62) = false ∧ ((c.toNat : Int) == 61) = false ∧ ((c.toNat : Int) == 43) = false ∧ ((c.toNat : Int) == 45) = false ∧ ((c.toNat : Int) == 42) = false ∧ ((c.toNat : Int) == 46) = false ∧ ((c.toNat : Int) == 40) = false) ∨ (X.sgn1 c = false ∧ ((c.toNat : Int) == 60) = false ∧ ((c.toNat : Int) == 62) = false ∧ ((c.toNat : Int) == 61) = false ∧ ((c.toNat : Int) == 43) = false ∧ ((c.toNat : Int) == 45) = false ∧ ((c.toNat : Int) == 42) = false ∧ ((c.toNat : Int) == 46) = false ∧ ((c.toNat : Int) == 40) = false ∧ ((c.toNat : Int) == 41) = false) := by
  unfold X.sgn1
  by_cases h : c ∈ ([60, 62, 61, 43, 45, 42, 46, 40, 41] : List UInt8)
  · simp only [List.mem_cons, List.not_mem_nil, or_false] at h
    rcases h with rfl | rfl | rfl | rfl | rfl | rfl | rfl | rfl | rfl <;> decide
  · have h2 := h
    simp only [List.mem_cons, List.not_mem_nil, or_false, not_or] at h2
    obtain ⟨h0, h1, h2, h3, h4, h5, h6, h7, h8⟩ := h2
    right; right; right; right; right; right; right; right; right
    refine ⟨by simpa using h, ?_, ?_, ?_, ?_, ?_, ?_, ?_, ?_, ?_⟩
    all_goals
      simp only [beq_eq_false_iff_ne, ne_eq]
      intro e
      first | exact h0 (UInt8.toNat_inj.1 (show c.toNat = 60 by omega)) | exact h1 (UInt8.toNat_inj.1 (show c.toNat = 62 by omega)) | exact h2 (UInt8.toNat_inj.1 (show c.toNat = 61 by omega)) | exact h3 (UInt8.toNat_inj.1 (show c.toNat = 43 by omega)) | exact h4 (UInt8.toNat_inj.1 (show c.toNat = 45 by omega)) | exact h5 (UInt8.toNat_inj.1 (show c.toNat = 42 by omega)) | exact h6 (UInt8.toNat_inj.1 (show c.toNat = 46 by omega)) | exact h7 (UInt8.toNat_inj.1 (show c.toNat = 40 by omega)) | exact h8 (UInt8.toNat_inj.1 (show c.toNat = 41 by omega))
theorem X.two_list {S : ByteArray} (h : 1 < S.size) : (S.extract 0 2).data.toList = [S[0]'(by omega), S[1]'h] := by
  rw [ext_list]
  have h0 := byte_at (S := S) (i := 0) (by omega)
  have h1 := byte_at h
  cases hh : S.data.toList with
  | nil => rw [hh] at h0; cases h0
  | cons a l =>
    rw [hh] at h0 h1
    cases l with
    | nil => cases h1
    | cons b l =>
      simp at h0 h1
      simp [h0, h1]
set_option maxRecDepth 100000 in
set_option maxHeartbeats 4000000 in
theorem sign_r (w : World) (S : ByteArray) (h0 : 0 < S.size) (hS : S.size ≤ 4096) :
    Calls Tryd.prog 28 #[.string S] w fun e w' => e = .returned (.int .i64 (X.sgnLen S.data.toList : Nat)) ∧ w = w' := by
  have hhd : S.data.toList.headD 0 = S[0]'h0 := by
    have h1 := getD_byte h0
    cases hh : S.data.toList with
    | nil => have := size_list S; rw [hh] at this; simp only [List.length_nil] at this; omega
    | cons c l => rw [hh] at h1; simpa [List.getD] using h1
  have h0i : (0 : Int) < S.size := by omega
  obtain ⟨G, hG⟩ : ∃ G, X.sgnLen S.data.toList = G := ⟨_, rfl⟩
  rw [hG]
  unfold X.sgnLen at hG
  rw [hhd, size_list] at hG
  have HG := Lib.hid hG
  clear hG hhd
  by_cases hsz : 1 < S.size
  · have ds1 : decide ((S.size : Int) ≥ 2) = true := decide_eq_true (by omega)
    have ds2 : decide ((2 : Int) ≤ S.size) = true := decide_eq_true (by omega)
    have hszi : (2 : Int) ≤ S.size := by omega
    obtain ⟨T, hT⟩ : ∃ T, T = S.extract 0 2 := ⟨_, rfl⟩
    have hTl : T.data.toList = [S[0]'h0, S[1]'hsz] := by rw [hT, X.two_list hsz]
    have HT := Lib.hid hT
    have hg1 : S.data.toList.getD 1 0 = S[1]'hsz := getD_byte hsz
    rw [hg1] at HG
    clear hT hg1
    by_cases hx : (S[1]'hsz) = 61 ∧ X.sgn2 (S[0]'h0) = true
    · have hg := HG.out
      rw [if_pos ⟨hsz, hx⟩] at hg
      have HGV := Lib.hid hg
      have hc : (S[0]'h0) = 60 ∨ (S[0]'h0) = 62 ∨ (S[0]'h0) = 33 := by have := hx.2; unfold X.sgn2 at this; simpa [or_assoc] using this
      rw [hx.1] at hTl
      clear hg HG hx
      rcases hc with hc | hc | hc
      all_goals
        rw [hc] at hTl
        have hTT := bytes_ext hTl
        subst hTT
        clear hTl hc
        go_enter Tryd.func28, Tryd.ntmps28
        go_upto_region 4 with (fail)
        rw [← HT.out]
        go_wp2_with fail
        go_ret
        exact ⟨by rw [← HGV.out]; rfl, rfl⟩
    · have n1 : T.data.toList ≠ [60, 61] := fun e => hx (by rw [hTl] at e; injection e with e1 e2; injection e2 with e2 _; rw [e1, e2]; decide)
      have n2 : T.data.toList ≠ [62, 61] := fun e => hx (by rw [hTl] at e; injection e with e1 e2; injection e2 with e2 _; rw [e1, e2]; decide)
      have n3 : T.data.toList ≠ [33, 61] := fun e => hx (by rw [hTl] at e; injection e with e1 e2; injection e2 with e2 _; rw [e1, e2]; decide)
      replace n1 := toList_beq n1
      replace n2 := toList_beq n2
      replace n3 := toList_beq n3
      have HX := Lib.hid hx
      clear hTl hx
      rcases X.sgn1_cases (S[0]'h0) with ⟨hs, hk⟩ | ⟨hs, hk, g0⟩ | ⟨hs, hk, g0, g1⟩ | ⟨hs, hk, g0, g1, g2⟩ | ⟨hs, hk, g0, g1, g2, g3⟩ | ⟨hs, hk, g0, g1, g2, g3, g4⟩ | ⟨hs, hk, g0, g1, g2, g3, g4, g5⟩ | ⟨hs, hk, g0, g1, g2, g3, g4, g5, g6⟩ | ⟨hs, hk, g0, g1, g2, g3, g4, g5, g6, g7⟩ | ⟨hs, g0, g1, g2, g3, g4, g5, g6, g7, g8⟩
      all_goals
        have hg := HG.out
        rw [if_neg (fun h => HX.out h.2), hs] at hg
        have HGV := Lib.hid hg
        clear hg hs
        go_enter Tryd.func28, Tryd.ntmps28
        go_upto_region 4 with (fail)
        rw [← HT.out]
        go_wp2_with fail
        go_ret
        exact ⟨by rw [← HGV.out]; rfl, rfl⟩
  · have ds1 : decide ((S.size : Int) ≥ 2) = false := decide_eq_false (by omega)
    have ds2 : decide ((2 : Int) ≤ S.size) = false := decide_eq_false (by omega)
    rcases X.sgn1_cases (S[0]'h0) with ⟨hs, hk⟩ | ⟨hs, hk, g0⟩ | ⟨hs, hk, g0, g1⟩ | ⟨hs, hk, g0, g1, g2⟩ | ⟨hs, hk, g0, g1, g2, g3⟩ | ⟨hs, hk, g0, g1, g2, g3, g4⟩ | ⟨hs, hk, g0, g1, g2, g3, g4, g5⟩ | ⟨hs, hk, g0, g1, g2, g3, g4, g5, g6⟩ | ⟨hs, hk, g0, g1, g2, g3, g4, g5, g6, g7⟩ | ⟨hs, g0, g1, g2, g3, g4, g5, g6, g7, g8⟩
    all_goals
      have hg := HG.out
      rw [if_neg (fun h => hsz h.1), hs] at hg
      have HGV := Lib.hid hg
      clear hg hs
      go_enter Tryd.func28, Tryd.ntmps28
      go_wp2_with fail
      go_ret
      exact ⟨by rw [← HGV.out]; rfl, rfl⟩
end Go.Proofs.YtkioaogpmifgeaaDoor

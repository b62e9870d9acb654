/-
  riddleref04.norm, riddleref04.sameNumber: contracts.
-/
import Derived.Test.YtmncamnlmpajbaaSCopy
namespace Go.Proofs.Ytmncamnlmpajbaa
open Go.RowKit

theorem nrm_nil {mg : List Nat} (h : (nrm mg).length = 0) (ng : Bool) : nrm mg = [] ∧ nrmS ng mg = false := by
  have h1 : nrm mg = [] := List.eq_nil_of_length_eq_zero h
  refine ⟨h1, ?_⟩
  have : N.nv mg = 0 := by
    rcases Nat.eq_zero_or_pos (N.nv mg) with h0 | h0
    · exact h0
    · have := ofN_len_pos (k := (nrm mg).length) rfl h0
      omega
  unfold nrmS
  rw [this]
  simp
theorem nrm_pos {mg : List Nat} (h : (nrm mg).length ≠ 0) (ng : Bool) : nrmS ng mg = ng := by
  have : 0 < N.nv mg := by
    rcases Nat.eq_zero_or_pos (N.nv mg) with h0 | h0
    · exact absurd (ofN_len_zero (k := (nrm mg).length) rfl h0) h
    · exact h0
  unfold nrmS
  rw [decide_eq_true this, Bool.and_true]
set_option maxRecDepth 100000 in
set_option maxHeartbeats 800000 in
theorem norm_rl (w : World) (R : Nat → Prop) (ng : Bool) (A : Option Addr) (c : Nat) (mg : List Nat) (h : SlR w R A c mg) (hl : mg.length ≤ 1048576) :
    Calls Try.prog 55 #[.agg #[.bool ng, .slice A mg.length c]] w fun e w' => ∃ A' c', e = .returned (.agg #[.bool (nrmS ng mg), .slice A' (nrm mg).length c']) ∧ SlR w' (Nb w' w.heap.size w'.heap.size) A' c' (nrm mg) ∧ Below w.heap.size w w' := by
  have hs := h.1
  obtain ⟨m, hm⟩ : ∃ m, mg.length = m := ⟨_, rfl⟩
  rw [hm] at hs hl ⊢
  obtain ⟨W, hW, p0, p1, hsz, hb0⟩ := enter2r w 32 (.bool ng) (.slice A m c) (.bool false) (.slice none 0 0)
  have HS := Lib.hid (hs.below hb0)
  obtain ⟨_, _, c0, c1⟩ := p0.facts
  clear hm hs h
  go_enter Try.func55, Try.ntmps55
  go_upto_region 1 with (fail)
  rw [← hW]
  clear hW
  go_upto_region 2 with (go_at_call 75; refine (rtrim_any _ _ _ _ _ HS.out (by omega)).mono ?_; rintro e w2 ⟨g, n', c', rfl, hown, hb2⟩)
  have hbw := below_on hb0 hb2
  have p0 := p0.below hb2
  have p1 := p1.below hb2
  obtain ⟨_, _, c0, c1⟩ := p0.facts
  obtain ⟨f0, f1, d0, d1⟩ := p1.facts
  obtain hlen : (nrm mg).length = n' := hown.len
  have HO := Lib.hid hown
  have HL := Lib.hid hlen
  clear hown hlen hb2
  by_cases h0 : n' = 0
  · subst h0
    obtain ⟨e1, e2⟩ := nrm_nil HL.out ng
    have HE := Lib.hid (And.intro e1 e2)
    clear e1 e2
    go_wp2_with fail
    refine bodyPost_ret (results_cell_row rfl _ _ _ _ _ _ _ rfl (p1.set _ _) Try.underlying32 rfl sizeInt) rfl ?_
    refine ⟨none, 0, by rw [HE.out.1, HE.out.2]; rfl, ?_, below_pair hbw (by omega) _ _⟩
    rw [HE.out.1]
    exact ⟨Sl.nil _ _ _, fun hn => absurd hn (by simp)⟩
  · have h1 : ((n' : Int) == 0) = false := by simp; omega
    have HE := Lib.hid (nrm_pos (by rw [HL.out]; exact h0) ng)
    have hg := HO.out.base_le
    have hgW := hsz
    go_wp2_with fail
    refine bodyPost_ret (results_cell_row rfl _ _ _ _ _ _ _ rfl (p1.set _ _) Try.underlying32 rfl sizeInt) rfl ?_
    refine ⟨some ⟨g, 0, none⟩, c', by rw [HE.out, HL.out], ?_, below_pair hbw (by omega) _ _⟩
    have hoff : g ≠ w.heap.size + 1 := by omega
    have hO2 := (HO.out.far hoff 0 (.bool ng)).far hoff 1 (.slice (some ⟨g, 0, none⟩) n' c')
    obtain ⟨hnb, _⟩ := nb_row hO2.own
    refine ⟨by rw [HL.out]; exact hO2.sl, fun hn ad e => ?_⟩
    injection e with e
    subst e
    exact ⟨by show w.heap.size ≤ g; omega, hnb.2⟩
theorem cmpN_self (x : Nat) : N.cmpN x x = 0 := by simp [N.cmpN]
set_option maxRecDepth 100000 in
set_option maxHeartbeats 800000 in
theorem samenum_eq (w : World) (R R' : Nat → Prop) (ng ng' : Bool) (A A' : Option Addr) (c c' : Nat) (mg mg' : List Nat) (h : SlR w R A c mg) (h' : SlR w R' A' c' mg') (hl : mg.length ≤ 1048576) (hl' : mg'.length ≤ 1048576) (e1 : nrmS ng mg = nrmS ng' mg') (e2 : nrm mg = nrm mg') :
    Calls Try.prog 37 #[.agg #[.bool ng, .slice A mg.length c], .agg #[.bool ng', .slice A' mg'.length c']] w fun e w' => e = .returned (.bool true) ∧ Below w.heap.size w w' := by
  obtain ⟨W, hW, p0, p1, hsz, hb0⟩ := enter2r w 32 (.bool ng) (.slice A mg.length c) (.bool ng') (.slice A' mg'.length c')
  have HS := Lib.hid (h.below hb0)
  have HS' := Lib.hid (h'.below hb0)
  have H1 := Lib.hid e1
  have H2 := Lib.hid e2
  obtain ⟨m, hm⟩ : ∃ m, mg.length = m := ⟨_, rfl⟩
  obtain ⟨m', hm'⟩ : ∃ m, mg'.length = m := ⟨_, rfl⟩
  have HM := Lib.hid hm
  have HM' := Lib.hid hm'
  rw [hm] at p0 hW hl ⊢
  rw [hm'] at p1 hW hl' ⊢
  obtain ⟨_, _, c0, c1⟩ := p0.facts
  have hnl : (nrm mg').length ≤ 1048576 := by
    have := N.ofN_nv_length h'.1.lim
    unfold nrm
    rw [← HM'.out] at hl'
    exact Nat.le_trans this hl'
  clear h h' e1 e2 hm hm'
  go_enter Try.func37, Try.ntmps37
  go_upto_region 1 with (fail)
  rw [← hW]
  clear hW
  have hc1 : Calls Try.prog 55 #[.agg #[.bool ng, .slice A m c]] W fun e w' => ∃ E d, e = .returned (.agg #[.bool (nrmS ng mg), .slice E (nrm mg).length d]) ∧ SlR w' (Nb w' W.heap.size w'.heap.size) E d (nrm mg) ∧ Below W.heap.size W w' := by
    have := norm_rl W R ng A c mg HS.out (by rw [HM.out]; exact hl)
    rw [HM.out] at this
    exact this
  rw [H1.out, H2.out] at hc1
  have HC1 := Lib.hid hc1
  clear hc1
  go_upto_region 2 with (go_at_call 55; refine HC1.out.mono ?_; rintro e w2 ⟨E1, d1, rfl, hs1, hb2⟩)
  obtain ⟨W2, hW2, q0, hb3⟩ := made_blk w2 #[.bool (nrmS ng' mg'), .slice E1 (nrm mg').length d1] 32
  have hs2 := (hs1.below hb3).1
  have hbx := below_on hb2 hb3
  have hbw := below_on hb0 hbx
  have p1 := p1.below hbx
  rw [← hW2]
  obtain ⟨B2, hB2⟩ : ∃ b, b = w2.heap.size := ⟨_, rfl⟩
  rw [← hB2] at q0 ⊢
  clear hW2 hB2 hb2 hb3 hs1 c0 c1
  obtain ⟨_, _, c0, c1⟩ := p1.facts
  have hc2 : Calls Try.prog 55 #[.agg #[.bool ng', .slice A' m' c']] W2 fun e w' => ∃ E d, e = .returned (.agg #[.bool (nrmS ng' mg'), .slice E (nrm mg').length d]) ∧ SlR w' (Nb w' W2.heap.size w'.heap.size) E d (nrm mg') ∧ Below W2.heap.size W2 w' := by
    have := norm_rl W2 R' ng' A' c' mg' (HS'.out.below hbx) (by rw [HM'.out]; exact hl')
    rw [HM'.out] at this
    exact this
  have HC2 := Lib.hid hc2
  clear hc2
  go_upto_region 3 with (go_at_call 55; refine HC2.out.mono ?_; rintro e w4 ⟨E2, d2, rfl, hs3, hb4⟩)
  obtain ⟨W4, hW4, r0, hb5⟩ := made_blk w4 #[.bool (nrmS ng' mg'), .slice E2 (nrm mg').length d2] 32
  have hs4 := (hs3.below hb5).1
  have hby := below_on hb4 hb5
  have hbz := below_on hbw hby
  have q0 := q0.below hby
  have hs5 := hs2.below hby
  rw [← hW4]
  obtain ⟨B4, hB4⟩ : ∃ b, b = w4.heap.size := ⟨_, rfl⟩
  rw [← hB4] at r0 ⊢
  clear hW4 hB4 hb4 hb5 hs3 hs2
  have x0 := q0.cell 0
  have x1 := q0.cell 1
  have y0 := r0.cell 0
  have y1 := r0.cell 1
  simp only [List.getElem?_toArray, List.getElem?_cons_zero, List.getElem?_cons_succ] at x0 x1 y0 y1
  have HA := Lib.hid hs4
  have HB := Lib.hid hs5
  obtain ⟨nl, hnn⟩ : ∃ nl, (nrm mg').length = nl := ⟨_, rfl⟩
  rw [hnn] at HA HB hnl x1 y1
  clear hs4 hs5 c0 c1 hnn
  have hcm : Calls Try.prog 56 #[.slice E1 nl d1, .slice E2 nl d2] W4 fun e w' => e = .returned (.int .i64 0) ∧ w' = W4 := by
    refine (rcmp_any W4 _ _ _ _ _ _ _ _ HB.out HA.out (by omega) (by omega)).mono ?_
    rintro e w' ⟨rfl, rfl⟩
    rw [cmpN_self]
    exact ⟨rfl, rfl⟩
  have HCM := Lib.hid hcm
  clear hcm
  go_wp2_with (go_at_call 56; refine HCM.out.mono ?_; rintro e w5 ⟨rfl, rfl⟩)
  go_ret
  exact ⟨rfl, hbz⟩
end Go.Proofs.Ytmncamnlmpajbaa

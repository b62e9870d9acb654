/-
  riddleref02.Cmp, Add, Sub, Mul: contracts.
-/
import Derived.Test.YtiidghfkdjefgaaDoorZRef2
namespace Go.Proofs.YtiidghfkdjefgaaDoor
open Go.RowKit

section
variable {w : World} {a b : Value} {K L x y : Nat}
theorem rcmp_b (ha : Mag w a K x) (hb : Mag w b L y) (hK : K ≤ 35184372088832) (hL : L ≤ 35184372088832) :
    Calls Tryd.prog 67 #[a, b] w fun e w' => e = .returned (.int .i64 (N.cmpN x y)) ∧ w = w' := by
  obtain ⟨A, n, c, l, rfl, _, hs, rfl, hn⟩ := ha
  obtain ⟨B, m, d, k, rfl, _, ht, rfl, hm⟩ := hb
  exact rcmp_any w A n c l B m d k hs ht (by omega) (by omega)
theorem radd_b (ha : Mag w a K x) (hb : Mag w b L y) (hK : K ≤ 17592186044416) (hL : L ≤ 17592186044416) :
    Calls Tryd.prog 68 #[a, b] w fun e w' => ∃ g n c, e = .returned (.slice (some ⟨g, 0, none⟩) n c) ∧ Bag w' (.slice (some ⟨g, 0, none⟩) n c) (K + L + 1) (x + y) ∧ Below w.heap.size w w' := by
  have h1 := ha.val.lt
  have h2 := hb.val.lt
  obtain ⟨A, n, c, l, rfl, _, hs, rfl, hn⟩ := ha
  obtain ⟨B, m, d, k, rfl, _, ht, rfl, hm⟩ := hb
  refine (radd_any w A n c l B m d k hs ht (by omega) (by omega)).mono ?_
  rintro e w' ⟨g, n', c', rfl, ho, hb⟩
  have h3 : 4294967296 ^ K ≤ 4294967296 ^ (K + L) := Nat.pow_le_pow_right (by omega) (by omega)
  have h4 : 4294967296 ^ L ≤ 4294967296 ^ (K + L) := Nat.pow_le_pow_right (by omega) (by omega)
  exact ⟨g, n', c', rfl, own_bag ho (N.ofN_length_le (by rw [Nat.pow_succ]; omega)), hb⟩
theorem rsub_b (ha : Mag w a K x) (hb : Mag w b L y) (hK : K ≤ 17592186044416) (hL : L ≤ 17592186044416) (hle : y ≤ x) :
    Calls Tryd.prog 69 #[a, b] w fun e w' => ∃ g n c, e = .returned (.slice (some ⟨g, 0, none⟩) n c) ∧ Bag w' (.slice (some ⟨g, 0, none⟩) n c) K (x - y) ∧ Below w.heap.size w w' := by
  have h1 := ha.val.lt
  obtain ⟨A, n, c, l, rfl, _, hs, rfl, hn⟩ := ha
  obtain ⟨B, m, d, k, rfl, _, ht, rfl, hm⟩ := hb
  refine (rsub_any w A n c l B m d k hs ht (by omega) (by omega) hle).mono ?_
  rintro e w' ⟨g, n', c', rfl, ho, hb⟩
  exact ⟨g, n', c', rfl, own_bag ho (N.ofN_length_le (by omega)), hb⟩
theorem rmul_b (ha : Mag w a K x) (hb : Mag w b L y) (hK : K ≤ 4398046511104) (hL : L ≤ 4398046511104) :
    Calls Tryd.prog 70 #[a, b] w fun e w' => ∃ g n c, e = .returned (.slice (some ⟨g, 0, none⟩) n c) ∧ Bag w' (.slice (some ⟨g, 0, none⟩) n c) (K + L) (x * y) ∧ Below w.heap.size w w' := by
  have h1 := ha.val.lt
  have h2 := hb.val.lt
  obtain ⟨A, n, c, l, rfl, _, hs, rfl, hn⟩ := ha
  obtain ⟨B, m, d, k, rfl, _, ht, rfl, hm⟩ := hb
  refine (rmul_any w A n c l B m d k hs ht (by omega) (by omega)).mono ?_
  rintro e w' ⟨g, n', c', rfl, ho, hb⟩
  exact ⟨g, n', c', rfl, own_bag ho (N.ofN_length_le (pow_bound h1 h2 (Nat.le_refl _))), hb⟩
end
set_option maxRecDepth 100000 in
set_option maxHeartbeats 4000000 in
theorem add_r {w : World} {a b : Value} {K L : Nat} {x y : Int} (ha : IV w a K x) (hb : IV w b L y) (hK : K + L < 4398046511104) :
    Calls Tryd.prog 34 #[a, b] w fun e w' => ∃ u, e = .returned u ∧ ICan w' u (K + L + 1) (x + y) ∧ Below w.heap.size w w' := by
  obtain ⟨s, m, ⟨sa, rfl, ha⟩, rfl⟩ := ha
  obtain ⟨t, n, ⟨sb, rfl, hb⟩, rfl⟩ := hb
  obtain ⟨A0, n0, k0, rfl⟩ := ha.slice
  obtain ⟨A1, n1', k1', rfl⟩ := hb.slice
  cases s <;> cases t
  · obtain ⟨W, hW, hp0, hp1, hp2, hsz, hbW⟩ := enter2 w 24 (.bool false) (.slice A0 n0 k0) (.bool false) (.slice A1 n1' k1')
    have hS0 : ∀ w', Below (w.heap.size + 2) W w' → (fun w' => ((w'.cell? ⟨w.heap.size, 0, none⟩ = some (.bool false) ∧ w'.cell? ⟨w.heap.size, 1, none⟩ = some (.slice A0 n0 k0)) ∧ (w'.cell? ⟨w.heap.size + 1, 0, none⟩ = some (.bool false) ∧ w'.cell? ⟨w.heap.size + 1, 1, none⟩ = some (.slice A1 n1' k1'))) ∧ Below (w.heap.size + 2) W w') w' := fun w' h => ⟨⟨⟨(hp0.keep h (by omega)).facts.2.2.1, (hp0.keep h (by omega)).facts.2.2.2⟩, ⟨(hp1.keep h (by omega)).facts.2.2.1, (hp1.keep h (by omega)).facts.2.2.2⟩⟩, h⟩
    have hR0 : w.heap.size + 2 ≤ W.heap.size := by omega
    have hB0 : ∀ w', Below (w.heap.size + 2) W w' → Below w.heap.size w w' := fun w' h => hbW.trans (h.mono (by omega))
    obtain ⟨_, _, c00, c01⟩ := hp0.facts
    obtain ⟨_, _, c10, c11⟩ := hp1.facts
    have HS0 := Lib.hid hS0
    have HR := Lib.hid hR0
    have HB := Lib.hid hB0
    have HW := Lib.hid hW
    clear hS0 hR0 hB0 hbW hsz hW
    go_enter Tryd.func34, Tryd.ntmps34
    go_wp2_with fail
    rw [← HW.out]
    go_region_held3 (fun w' => ((w'.cell? ⟨w.heap.size, 0, none⟩ = some (.bool false) ∧ w'.cell? ⟨w.heap.size, 1, none⟩ = some (.slice A0 n0 k0)) ∧ (w'.cell? ⟨w.heap.size + 1, 0, none⟩ = some (.bool false) ∧ w'.cell? ⟨w.heap.size + 1, 1, none⟩ = some (.slice A1 n1' k1'))) ∧ Below (w.heap.size + 2) W w')
      (first | assumption | exact HS0.out _ (by assumption) | exact HS0.out _ (Below.drew (by assumption)) | exact HS0.out _ (Below.refl _ _).drew | exact HS0.out _ (below_pair (by assumption) (Nat.le_refl _) _ _) | exact HS0.out _ (below_pair (below_pair (by assumption) (Nat.le_refl _) _ _) (Nat.le_succ _) _ _))
      (first
        | (go_at_call 68; (try clear hS); refine (radd_b (ha.below (HB.out _ (s_below (by assumption)))) (hb.below (HB.out _ (s_below (by assumption)))) (by omega) (by omega)).mono ?_; rintro e w1 ⟨g1, n1, k1, rfl, hv1, hb1⟩; replace hv1 := hv1.mag; have hS := on_go HR.out (s_below (by assumption)) hb1; (first | replace hp2 := hp2.below hb1 | replace hp2 := hp2.drew.below hb1); clear hb1)
        | (go_at_call 22; refine (norm_r (K := _) ⟨false, _, ⟨_, rfl, hv1⟩, rfl⟩ (by omega)).mono ?_; rintro e w2 ⟨u, rfl, hu, hb2⟩; rw [sgn_add_same] at hu; obtain ⟨d, A2, n2, c2, rfl, HD, hg⟩ := hu.form; have hS2 := on_go HR.out hS hb2; clear hS; have hS := hS2; clear hS2 hu; (first | replace hp2 := hp2.below hb2 | replace hp2 := hp2.drew.below hb2); obtain ⟨f0, f1, c0, c1⟩ := hp2.facts; clear hb2))
    go_wp2_with fail
    refine bodyPost_ret (results_cell_row rfl _ _ _ _ _ _ _ rfl (hp2.set _ _) Tryd.underlying24 rfl sizeInt) rfl ?_
    exact ⟨_, rfl, ICan.mk HD.out (hg.pair hp2 _ _), below_pair (HB.out _ hS) (by omega) _ _⟩
  · rcases Nat.lt_or_ge m n with hx | hx
    · obtain ⟨W, hW, hp0, hp1, hp2, hsz, hbW⟩ := enter2 w 24 (.bool false) (.slice A0 n0 k0) (.bool true) (.slice A1 n1' k1')
      have hS0 : ∀ w', Below (w.heap.size + 2) W w' → (fun w' => ((w'.cell? ⟨w.heap.size, 0, none⟩ = some (.bool false) ∧ w'.cell? ⟨w.heap.size, 1, none⟩ = some (.slice A0 n0 k0)) ∧ (w'.cell? ⟨w.heap.size + 1, 0, none⟩ = some (.bool true) ∧ w'.cell? ⟨w.heap.size + 1, 1, none⟩ = some (.slice A1 n1' k1'))) ∧ Below (w.heap.size + 2) W w') w' := fun w' h => ⟨⟨⟨(hp0.keep h (by omega)).facts.2.2.1, (hp0.keep h (by omega)).facts.2.2.2⟩, ⟨(hp1.keep h (by omega)).facts.2.2.1, (hp1.keep h (by omega)).facts.2.2.2⟩⟩, h⟩
      have hR0 : w.heap.size + 2 ≤ W.heap.size := by omega
      have hB0 : ∀ w', Below (w.heap.size + 2) W w' → Below w.heap.size w w' := fun w' h => hbW.trans (h.mono (by omega))
      obtain ⟨_, _, c00, c01⟩ := hp0.facts
      obtain ⟨_, _, c10, c11⟩ := hp1.facts
      have HS0 := Lib.hid hS0
      have HR := Lib.hid hR0
      have HB := Lib.hid hB0
      have HW := Lib.hid hW
      clear hS0 hR0 hB0 hbW hsz hW
      go_enter Tryd.func34, Tryd.ntmps34
      go_wp2_with fail
      rw [← HW.out]
      refine (rcmp_b (ha.below (HB.out _ (Below.refl _ _))) (hb.below (HB.out _ (Below.refl _ _))) (by omega) (by omega)).mono ?_
      rintro e w1 ⟨rfl, rfl⟩
      have tc := lss_cmp hx
      obtain ⟨cc, hcc⟩ : ∃ cc, cc = N.cmpN m n := ⟨_, rfl⟩
      rw [← hcc] at tc ⊢
      clear hcc
      obtain ⟨tc1, tc2⟩ := tc
      go_wp2_with fail
      go_region_held3 (fun w' => ((w'.cell? ⟨w.heap.size, 0, none⟩ = some (.bool false) ∧ w'.cell? ⟨w.heap.size, 1, none⟩ = some (.slice A0 n0 k0)) ∧ (w'.cell? ⟨w.heap.size + 1, 0, none⟩ = some (.bool true) ∧ w'.cell? ⟨w.heap.size + 1, 1, none⟩ = some (.slice A1 n1' k1'))) ∧ Below (w.heap.size + 2) W w')
        (first | assumption | exact HS0.out _ (by assumption) | exact HS0.out _ (Below.drew (by assumption)) | exact HS0.out _ (Below.refl _ _).drew | exact HS0.out _ (below_pair (by assumption) (Nat.le_refl _) _ _) | exact HS0.out _ (below_pair (below_pair (by assumption) (Nat.le_refl _) _ _) (Nat.le_succ _) _ _))
        (first
          | (go_at_call 69; (try clear hS); refine (rsub_b (hb.below (HB.out _ (s_below (by assumption)))) (ha.below (HB.out _ (s_below (by assumption)))) (by omega) (by omega) (Nat.le_of_lt hx)).mono ?_; rintro e w1 ⟨g1, n1, k1, rfl, hv1, hb1⟩; replace hv1 := hv1.mag; have hS := on_go HR.out (s_below (by assumption)) hb1; (first | replace hp2 := hp2.below hb1 | replace hp2 := hp2.drew.below hb1); clear hb1)
          | (go_at_call 22; refine (norm_r (K := _) ⟨true, _, ⟨_, rfl, hv1⟩, rfl⟩ (by omega)).mono ?_; rintro e w2 ⟨u, rfl, hu, hb2⟩; rw [sgn_add_lt (s := false) (t := true) (by decide) hx] at hu; obtain ⟨d, A2, n2, c2, rfl, HD, hg⟩ := hu.form; have hS2 := on_go HR.out hS hb2; clear hS; have hS := hS2; clear hS2 hu; (first | replace hp2 := hp2.below hb2 | replace hp2 := hp2.drew.below hb2); obtain ⟨f0, f1, c0, c1⟩ := hp2.facts; clear hb2))
      go_wp2_with fail
      refine bodyPost_ret (results_cell_row rfl _ _ _ _ _ _ _ rfl (hp2.set _ _) Tryd.underlying24 rfl sizeInt) rfl ?_
      exact ⟨_, rfl, ICan.mk HD.out ((hg.le (by omega)).pair hp2 _ _), below_pair (HB.out _ hS) (by omega) _ _⟩
    · obtain ⟨W, hW, hp0, hp1, hp2, hsz, hbW⟩ := enter2 w 24 (.bool false) (.slice A0 n0 k0) (.bool true) (.slice A1 n1' k1')
      have hS0 : ∀ w', Below (w.heap.size + 2) W w' → (fun w' => ((w'.cell? ⟨w.heap.size, 0, none⟩ = some (.bool false) ∧ w'.cell? ⟨w.heap.size, 1, none⟩ = some (.slice A0 n0 k0)) ∧ (w'.cell? ⟨w.heap.size + 1, 0, none⟩ = some (.bool true) ∧ w'.cell? ⟨w.heap.size + 1, 1, none⟩ = some (.slice A1 n1' k1'))) ∧ Below (w.heap.size + 2) W w') w' := fun w' h => ⟨⟨⟨(hp0.keep h (by omega)).facts.2.2.1, (hp0.keep h (by omega)).facts.2.2.2⟩, ⟨(hp1.keep h (by omega)).facts.2.2.1, (hp1.keep h (by omega)).facts.2.2.2⟩⟩, h⟩
      have hR0 : w.heap.size + 2 ≤ W.heap.size := by omega
      have hB0 : ∀ w', Below (w.heap.size + 2) W w' → Below w.heap.size w w' := fun w' h => hbW.trans (h.mono (by omega))
      obtain ⟨_, _, c00, c01⟩ := hp0.facts
      obtain ⟨_, _, c10, c11⟩ := hp1.facts
      have HS0 := Lib.hid hS0
      have HR := Lib.hid hR0
      have HB := Lib.hid hB0
      have HW := Lib.hid hW
      clear hS0 hR0 hB0 hbW hsz hW
      go_enter Tryd.func34, Tryd.ntmps34
      go_wp2_with fail
      rw [← HW.out]
      refine (rcmp_b (ha.below (HB.out _ (Below.refl _ _))) (hb.below (HB.out _ (Below.refl _ _))) (by omega) (by omega)).mono ?_
      rintro e w1 ⟨rfl, rfl⟩
      have tc := geq_cmp hx
      obtain ⟨cc, hcc⟩ : ∃ cc, cc = N.cmpN m n := ⟨_, rfl⟩
      rw [← hcc] at tc ⊢
      clear hcc
      obtain ⟨tc1, tc2⟩ := tc
      go_wp2_with fail
      go_region_held3 (fun w' => ((w'.cell? ⟨w.heap.size, 0, none⟩ = some (.bool false) ∧ w'.cell? ⟨w.heap.size, 1, none⟩ = some (.slice A0 n0 k0)) ∧ (w'.cell? ⟨w.heap.size + 1, 0, none⟩ = some (.bool true) ∧ w'.cell? ⟨w.heap.size + 1, 1, none⟩ = some (.slice A1 n1' k1'))) ∧ Below (w.heap.size + 2) W w')
        (first | assumption | exact HS0.out _ (by assumption) | exact HS0.out _ (Below.drew (by assumption)) | exact HS0.out _ (Below.refl _ _).drew | exact HS0.out _ (below_pair (by assumption) (Nat.le_refl _) _ _) | exact HS0.out _ (below_pair (below_pair (by assumption) (Nat.le_refl _) _ _) (Nat.le_succ _) _ _))
        (first
          | (go_at_call 69; (try clear hS); refine (rsub_b (ha.below (HB.out _ (s_below (by assumption)))) (hb.below (HB.out _ (s_below (by assumption)))) (by omega) (by omega) hx).mono ?_; rintro e w1 ⟨g1, n1, k1, rfl, hv1, hb1⟩; replace hv1 := hv1.mag; have hS := on_go HR.out (s_below (by assumption)) hb1; (first | replace hp2 := hp2.below hb1 | replace hp2 := hp2.drew.below hb1); clear hb1)
          | (go_at_call 22; refine (norm_r (K := _) ⟨false, _, ⟨_, rfl, hv1⟩, rfl⟩ (by omega)).mono ?_; rintro e w2 ⟨u, rfl, hu, hb2⟩; rw [sgn_add_ge (s := false) (t := true) (by decide) hx] at hu; obtain ⟨d, A2, n2, c2, rfl, HD, hg⟩ := hu.form; have hS2 := on_go HR.out hS hb2; clear hS; have hS := hS2; clear hS2 hu; (first | replace hp2 := hp2.below hb2 | replace hp2 := hp2.drew.below hb2); obtain ⟨f0, f1, c0, c1⟩ := hp2.facts; clear hb2))
      go_wp2_with fail
      refine bodyPost_ret (results_cell_row rfl _ _ _ _ _ _ _ rfl (hp2.set _ _) Tryd.underlying24 rfl sizeInt) rfl ?_
      exact ⟨_, rfl, ICan.mk HD.out ((hg.le (by omega)).pair hp2 _ _), below_pair (HB.out _ hS) (by omega) _ _⟩
  · rcases Nat.lt_or_ge m n with hx | hx
    · obtain ⟨W, hW, hp0, hp1, hp2, hsz, hbW⟩ := enter2 w 24 (.bool true) (.slice A0 n0 k0) (.bool false) (.slice A1 n1' k1')
      have hS0 : ∀ w', Below (w.heap.size + 2) W w' → (fun w' => ((w'.cell? ⟨w.heap.size, 0, none⟩ = some (.bool true) ∧ w'.cell? ⟨w.heap.size, 1, none⟩ = some (.slice A0 n0 k0)) ∧ (w'.cell? ⟨w.heap.size + 1, 0, none⟩ = some (.bool false) ∧ w'.cell? ⟨w.heap.size + 1, 1, none⟩ = some (.slice A1 n1' k1'))) ∧ Below (w.heap.size + 2) W w') w' := fun w' h => ⟨⟨⟨(hp0.keep h (by omega)).facts.2.2.1, (hp0.keep h (by omega)).facts.2.2.2⟩, ⟨(hp1.keep h (by omega)).facts.2.2.1, (hp1.keep h (by omega)).facts.2.2.2⟩⟩, h⟩
      have hR0 : w.heap.size + 2 ≤ W.heap.size := by omega
      have hB0 : ∀ w', Below (w.heap.size + 2) W w' → Below w.heap.size w w' := fun w' h => hbW.trans (h.mono (by omega))
      obtain ⟨_, _, c00, c01⟩ := hp0.facts
      obtain ⟨_, _, c10, c11⟩ := hp1.facts
      have HS0 := Lib.hid hS0
      have HR := Lib.hid hR0
      have HB := Lib.hid hB0
      have HW := Lib.hid hW
      clear hS0 hR0 hB0 hbW hsz hW
      go_enter Tryd.func34, Tryd.ntmps34
      go_wp2_with fail
      rw [← HW.out]
      refine (rcmp_b (ha.below (HB.out _ (Below.refl _ _))) (hb.below (HB.out _ (Below.refl _ _))) (by omega) (by omega)).mono ?_
      rintro e w1 ⟨rfl, rfl⟩
      have tc := lss_cmp hx
      obtain ⟨cc, hcc⟩ : ∃ cc, cc = N.cmpN m n := ⟨_, rfl⟩
      rw [← hcc] at tc ⊢
      clear hcc
      obtain ⟨tc1, tc2⟩ := tc
      go_wp2_with fail
      go_region_held3 (fun w' => ((w'.cell? ⟨w.heap.size, 0, none⟩ = some (.bool true) ∧ w'.cell? ⟨w.heap.size, 1, none⟩ = some (.slice A0 n0 k0)) ∧ (w'.cell? ⟨w.heap.size + 1, 0, none⟩ = some (.bool false) ∧ w'.cell? ⟨w.heap.size + 1, 1, none⟩ = some (.slice A1 n1' k1'))) ∧ Below (w.heap.size + 2) W w')
        (first | assumption | exact HS0.out _ (by assumption) | exact HS0.out _ (Below.drew (by assumption)) | exact HS0.out _ (Below.refl _ _).drew | exact HS0.out _ (below_pair (by assumption) (Nat.le_refl _) _ _) | exact HS0.out _ (below_pair (below_pair (by assumption) (Nat.le_refl _) _ _) (Nat.le_succ _) _ _))
        (first
          | (go_at_call 69; (try clear hS); refine (rsub_b (hb.below (HB.out _ (s_below (by assumption)))) (ha.below (HB.out _ (s_below (by assumption)))) (by omega) (by omega) (Nat.le_of_lt hx)).mono ?_; rintro e w1 ⟨g1, n1, k1, rfl, hv1, hb1⟩; replace hv1 := hv1.mag; have hS := on_go HR.out (s_below (by assumption)) hb1; (first | replace hp2 := hp2.below hb1 | replace hp2 := hp2.drew.below hb1); clear hb1)
          | (go_at_call 22; refine (norm_r (K := _) ⟨false, _, ⟨_, rfl, hv1⟩, rfl⟩ (by omega)).mono ?_; rintro e w2 ⟨u, rfl, hu, hb2⟩; rw [sgn_add_lt (s := true) (t := false) (by decide) hx] at hu; obtain ⟨d, A2, n2, c2, rfl, HD, hg⟩ := hu.form; have hS2 := on_go HR.out hS hb2; clear hS; have hS := hS2; clear hS2 hu; (first | replace hp2 := hp2.below hb2 | replace hp2 := hp2.drew.below hb2); obtain ⟨f0, f1, c0, c1⟩ := hp2.facts; clear hb2))
      go_wp2_with fail
      refine bodyPost_ret (results_cell_row rfl _ _ _ _ _ _ _ rfl (hp2.set _ _) Tryd.underlying24 rfl sizeInt) rfl ?_
      exact ⟨_, rfl, ICan.mk HD.out ((hg.le (by omega)).pair hp2 _ _), below_pair (HB.out _ hS) (by omega) _ _⟩
    · obtain ⟨W, hW, hp0, hp1, hp2, hsz, hbW⟩ := enter2 w 24 (.bool true) (.slice A0 n0 k0) (.bool false) (.slice A1 n1' k1')
      have hS0 : ∀ w', Below (w.heap.size + 2) W w' → (fun w' => ((w'.cell? ⟨w.heap.size, 0, none⟩ = some (.bool true) ∧ w'.cell? ⟨w.heap.size, 1, none⟩ = some (.slice A0 n0 k0)) ∧ (w'.cell? ⟨w.heap.size + 1, 0, none⟩ = some (.bool false) ∧ w'.cell? ⟨w.heap.size + 1, 1, none⟩ = some (.slice A1 n1' k1'))) ∧ Below (w.heap.size + 2) W w') w' := fun w' h => ⟨⟨⟨(hp0.keep h (by omega)).facts.2.2.1, (hp0.keep h (by omega)).facts.2.2.2⟩, ⟨(hp1.keep h (by omega)).facts.2.2.1, (hp1.keep h (by omega)).facts.2.2.2⟩⟩, h⟩
      have hR0 : w.heap.size + 2 ≤ W.heap.size := by omega
      have hB0 : ∀ w', Below (w.heap.size + 2) W w' → Below w.heap.size w w' := fun w' h => hbW.trans (h.mono (by omega))
      obtain ⟨_, _, c00, c01⟩ := hp0.facts
      obtain ⟨_, _, c10, c11⟩ := hp1.facts
      have HS0 := Lib.hid hS0
      have HR := Lib.hid hR0
      have HB := Lib.hid hB0
      have HW := Lib.hid hW
      clear hS0 hR0 hB0 hbW hsz hW
      go_enter Tryd.func34, Tryd.ntmps34
      go_wp2_with fail
      rw [← HW.out]
      refine (rcmp_b (ha.below (HB.out _ (Below.refl _ _))) (hb.below (HB.out _ (Below.refl _ _))) (by omega) (by omega)).mono ?_
      rintro e w1 ⟨rfl, rfl⟩
      have tc := geq_cmp hx
      obtain ⟨cc, hcc⟩ : ∃ cc, cc = N.cmpN m n := ⟨_, rfl⟩
      rw [← hcc] at tc ⊢
      clear hcc
      obtain ⟨tc1, tc2⟩ := tc
      go_wp2_with fail
      go_region_held3 (fun w' => ((w'.cell? ⟨w.heap.size, 0, none⟩ = some (.bool true) ∧ w'.cell? ⟨w.heap.size, 1, none⟩ = some (.slice A0 n0 k0)) ∧ (w'.cell? ⟨w.heap.size + 1, 0, none⟩ = some (.bool false) ∧ w'.cell? ⟨w.heap.size + 1, 1, none⟩ = some (.slice A1 n1' k1'))) ∧ Below (w.heap.size + 2) W w')
        (first | assumption | exact HS0.out _ (by assumption) | exact HS0.out _ (Below.drew (by assumption)) | exact HS0.out _ (Below.refl _ _).drew | exact HS0.out _ (below_pair (by assumption) (Nat.le_refl _) _ _) | exact HS0.out _ (below_pair (below_pair (by assumption) (Nat.le_refl _) _ _) (Nat.le_succ _) _ _))
        (first
          | (go_at_call 69; (try clear hS); refine (rsub_b (ha.below (HB.out _ (s_below (by assumption)))) (hb.below (HB.out _ (s_below (by assumption)))) (by omega) (by omega) hx).mono ?_; rintro e w1 ⟨g1, n1, k1, rfl, hv1, hb1⟩; replace hv1 := hv1.mag; have hS := on_go HR.out (s_below (by assumption)) hb1; (first | replace hp2 := hp2.below hb1 | replace hp2 := hp2.drew.below hb1); clear hb1)
          | (go_at_call 22; refine (norm_r (K := _) ⟨true, _, ⟨_, rfl, hv1⟩, rfl⟩ (by omega)).mono ?_; rintro e w2 ⟨u, rfl, hu, hb2⟩; rw [sgn_add_ge (s := true) (t := false) (by decide) hx] at hu; obtain ⟨d, A2, n2, c2, rfl, HD, hg⟩ := hu.form; have hS2 := on_go HR.out hS hb2; clear hS; have hS := hS2; clear hS2 hu; (first | replace hp2 := hp2.below hb2 | replace hp2 := hp2.drew.below hb2); obtain ⟨f0, f1, c0, c1⟩ := hp2.facts; clear hb2))
      go_wp2_with fail
      refine bodyPost_ret (results_cell_row rfl _ _ _ _ _ _ _ rfl (hp2.set _ _) Tryd.underlying24 rfl sizeInt) rfl ?_
      exact ⟨_, rfl, ICan.mk HD.out ((hg.le (by omega)).pair hp2 _ _), below_pair (HB.out _ hS) (by omega) _ _⟩
  · obtain ⟨W, hW, hp0, hp1, hp2, hsz, hbW⟩ := enter2 w 24 (.bool true) (.slice A0 n0 k0) (.bool true) (.slice A1 n1' k1')
    have hS0 : ∀ w', Below (w.heap.size + 2) W w' → (fun w' => ((w'.cell? ⟨w.heap.size, 0, none⟩ = some (.bool true) ∧ w'.cell? ⟨w.heap.size, 1, none⟩ = some (.slice A0 n0 k0)) ∧ (w'.cell? ⟨w.heap.size + 1, 0, none⟩ = some (.bool true) ∧ w'.cell? ⟨w.heap.size + 1, 1, none⟩ = some (.slice A1 n1' k1'))) ∧ Below (w.heap.size + 2) W w') w' := fun w' h => ⟨⟨⟨(hp0.keep h (by omega)).facts.2.2.1, (hp0.keep h (by omega)).facts.2.2.2⟩, ⟨(hp1.keep h (by omega)).facts.2.2.1, (hp1.keep h (by omega)).facts.2.2.2⟩⟩, h⟩
    have hR0 : w.heap.size + 2 ≤ W.heap.size := by omega
    have hB0 : ∀ w', Below (w.heap.size + 2) W w' → Below w.heap.size w w' := fun w' h => hbW.trans (h.mono (by omega))
    obtain ⟨_, _, c00, c01⟩ := hp0.facts
    obtain ⟨_, _, c10, c11⟩ := hp1.facts
    have HS0 := Lib.hid hS0
    have HR := Lib.hid hR0
    have HB := Lib.hid hB0
    have HW := Lib.hid hW
    clear hS0 hR0 hB0 hbW hsz hW
    go_enter Tryd.func34, Tryd.ntmps34
    go_wp2_with fail
    rw [← HW.out]
    go_region_held3 (fun w' => ((w'.cell? ⟨w.heap.size, 0, none⟩ = some (.bool true) ∧ w'.cell? ⟨w.heap.size, 1, none⟩ = some (.slice A0 n0 k0)) ∧ (w'.cell? ⟨w.heap.size + 1, 0, none⟩ = some (.bool true) ∧ w'.cell? ⟨w.heap.size + 1, 1, none⟩ = some (.slice A1 n1' k1'))) ∧ Below (w.heap.size + 2) W w')
      (first | assumption | exact HS0.out _ (by assumption) | exact HS0.out _ (Below.drew (by assumption)) | exact HS0.out _ (Below.refl _ _).drew | exact HS0.out _ (below_pair (by assumption) (Nat.le_refl _) _ _) | exact HS0.out _ (below_pair (below_pair (by assumption) (Nat.le_refl _) _ _) (Nat.le_succ _) _ _))
      (first
        | (go_at_call 68; (try clear hS); refine (radd_b (ha.below (HB.out _ (s_below (by assumption)))) (hb.below (HB.out _ (s_below (by assumption)))) (by omega) (by omega)).mono ?_; rintro e w1 ⟨g1, n1, k1, rfl, hv1, hb1⟩; replace hv1 := hv1.mag; have hS := on_go HR.out (s_below (by assumption)) hb1; (first | replace hp2 := hp2.below hb1 | replace hp2 := hp2.drew.below hb1); clear hb1)
        | (go_at_call 22; refine (norm_r (K := _) ⟨true, _, ⟨_, rfl, hv1⟩, rfl⟩ (by omega)).mono ?_; rintro e w2 ⟨u, rfl, hu, hb2⟩; rw [sgn_add_same] at hu; obtain ⟨d, A2, n2, c2, rfl, HD, hg⟩ := hu.form; have hS2 := on_go HR.out hS hb2; clear hS; have hS := hS2; clear hS2 hu; (first | replace hp2 := hp2.below hb2 | replace hp2 := hp2.drew.below hb2); obtain ⟨f0, f1, c0, c1⟩ := hp2.facts; clear hb2))
    go_wp2_with fail
    refine bodyPost_ret (results_cell_row rfl _ _ _ _ _ _ _ rfl (hp2.set _ _) Tryd.underlying24 rfl sizeInt) rfl ?_
    exact ⟨_, rfl, ICan.mk HD.out (hg.pair hp2 _ _), below_pair (HB.out _ hS) (by omega) _ _⟩
set_option maxRecDepth 100000 in
set_option maxHeartbeats 4000000 in
theorem mul_r {w : World} {a b : Value} {K L : Nat} {x y : Int} (ha : IV w a K x) (hb : IV w b L y) (hK : K + L < 4398046511104) :
    Calls Tryd.prog 36 #[a, b] w fun e w' => ∃ u, e = .returned u ∧ ICan w' u (K + L) (x * y) ∧ Below w.heap.size w w' := by
  obtain ⟨s, m, ⟨sa, rfl, ha⟩, rfl⟩ := ha
  obtain ⟨t, n, ⟨sb, rfl, hb⟩, rfl⟩ := hb
  obtain ⟨A0, n0, k0, rfl⟩ := ha.slice
  obtain ⟨A1, n1', k1', rfl⟩ := hb.slice
  cases s <;> cases t
  · obtain ⟨W, hW, hp0, hp1, hp2, hsz, hbW⟩ := enter2 w 24 (.bool false) (.slice A0 n0 k0) (.bool false) (.slice A1 n1' k1')
    have hS0 : ∀ w', Below (w.heap.size + 2) W w' → (fun w' => ((w'.cell? ⟨w.heap.size, 0, none⟩ = some (.bool false) ∧ w'.cell? ⟨w.heap.size, 1, none⟩ = some (.slice A0 n0 k0)) ∧ (w'.cell? ⟨w.heap.size + 1, 0, none⟩ = some (.bool false) ∧ w'.cell? ⟨w.heap.size + 1, 1, none⟩ = some (.slice A1 n1' k1'))) ∧ Below (w.heap.size + 2) W w') w' := fun w' h => ⟨⟨⟨(hp0.keep h (by omega)).facts.2.2.1, (hp0.keep h (by omega)).facts.2.2.2⟩, ⟨(hp1.keep h (by omega)).facts.2.2.1, (hp1.keep h (by omega)).facts.2.2.2⟩⟩, h⟩
    have hR0 : w.heap.size + 2 ≤ W.heap.size := by omega
    have hB0 : ∀ w', Below (w.heap.size + 2) W w' → Below w.heap.size w w' := fun w' h => hbW.trans (h.mono (by omega))
    obtain ⟨_, _, c00, c01⟩ := hp0.facts
    obtain ⟨_, _, c10, c11⟩ := hp1.facts
    have HS0 := Lib.hid hS0
    have HR := Lib.hid hR0
    have HB := Lib.hid hB0
    have HW := Lib.hid hW
    clear hS0 hR0 hB0 hbW hsz hW
    go_enter Tryd.func36, Tryd.ntmps36
    go_wp2_with fail
    rw [← HW.out]
    go_region_held3 (fun w' => ((w'.cell? ⟨w.heap.size, 0, none⟩ = some (.bool false) ∧ w'.cell? ⟨w.heap.size, 1, none⟩ = some (.slice A0 n0 k0)) ∧ (w'.cell? ⟨w.heap.size + 1, 0, none⟩ = some (.bool false) ∧ w'.cell? ⟨w.heap.size + 1, 1, none⟩ = some (.slice A1 n1' k1'))) ∧ Below (w.heap.size + 2) W w')
      (first | assumption | exact HS0.out _ (by assumption) | exact HS0.out _ (Below.drew (by assumption)) | exact HS0.out _ (Below.refl _ _).drew | exact HS0.out _ (below_pair (by assumption) (Nat.le_refl _) _ _) | exact HS0.out _ (below_pair (below_pair (by assumption) (Nat.le_refl _) _ _) (Nat.le_succ _) _ _))
      (first
        | (go_at_call 70; (try clear hS); refine (rmul_b (ha.below (HB.out _ (s_below (by assumption)))) (hb.below (HB.out _ (s_below (by assumption)))) (by omega) (by omega)).mono ?_; rintro e w1 ⟨g1, n1, k1, rfl, hv1, hb1⟩; replace hv1 := hv1.mag; have hS := on_go HR.out (s_below (by assumption)) hb1; (first | replace hp2 := hp2.below hb1 | replace hp2 := hp2.drew.below hb1); clear hb1)
        | (go_at_call 22; refine (norm_r (K := _) ⟨false, _, ⟨_, rfl, hv1⟩, rfl⟩ (by omega)).mono ?_; rintro e w2 ⟨u, rfl, hu, hb2⟩; rw [show sgn false (m * n) = sgn false m * sgn false n from sgn_mul false false m n] at hu; obtain ⟨d, A2, n2, c2, rfl, HD, hg⟩ := hu.form; have hS2 := on_go HR.out hS hb2; clear hS; have hS := hS2; clear hS2 hu; (first | replace hp2 := hp2.below hb2 | replace hp2 := hp2.drew.below hb2); obtain ⟨f0, f1, c0, c1⟩ := hp2.facts; clear hb2))
    go_wp2_with fail
    refine bodyPost_ret (results_cell_row rfl _ _ _ _ _ _ _ rfl (hp2.set _ _) Tryd.underlying24 rfl sizeInt) rfl ?_
    exact ⟨_, rfl, ICan.mk HD.out (hg.pair hp2 _ _), below_pair (HB.out _ hS) (by omega) _ _⟩
  · obtain ⟨W, hW, hp0, hp1, hp2, hsz, hbW⟩ := enter2 w 24 (.bool false) (.slice A0 n0 k0) (.bool true) (.slice A1 n1' k1')
    have hS0 : ∀ w', Below (w.heap.size + 2) W w' → (fun w' => ((w'.cell? ⟨w.heap.size, 0, none⟩ = some (.bool false) ∧ w'.cell? ⟨w.heap.size, 1, none⟩ = some (.slice A0 n0 k0)) ∧ (w'.cell? ⟨w.heap.size + 1, 0, none⟩ = some (.bool true) ∧ w'.cell? ⟨w.heap.size + 1, 1, none⟩ = some (.slice A1 n1' k1'))) ∧ Below (w.heap.size + 2) W w') w' := fun w' h => ⟨⟨⟨(hp0.keep h (by omega)).facts.2.2.1, (hp0.keep h (by omega)).facts.2.2.2⟩, ⟨(hp1.keep h (by omega)).facts.2.2.1, (hp1.keep h (by omega)).facts.2.2.2⟩⟩, h⟩
    have hR0 : w.heap.size + 2 ≤ W.heap.size := by omega
    have hB0 : ∀ w', Below (w.heap.size + 2) W w' → Below w.heap.size w w' := fun w' h => hbW.trans (h.mono (by omega))
    obtain ⟨_, _, c00, c01⟩ := hp0.facts
    obtain ⟨_, _, c10, c11⟩ := hp1.facts
    have HS0 := Lib.hid hS0
    have HR := Lib.hid hR0
    have HB := Lib.hid hB0
    have HW := Lib.hid hW
    clear hS0 hR0 hB0 hbW hsz hW
    go_enter Tryd.func36, Tryd.ntmps36
    go_wp2_with fail
    rw [← HW.out]
    go_region_held3 (fun w' => ((w'.cell? ⟨w.heap.size, 0, none⟩ = some (.bool false) ∧ w'.cell? ⟨w.heap.size, 1, none⟩ = some (.slice A0 n0 k0)) ∧ (w'.cell? ⟨w.heap.size + 1, 0, none⟩ = some (.bool true) ∧ w'.cell? ⟨w.heap.size + 1, 1, none⟩ = some (.slice A1 n1' k1'))) ∧ Below (w.heap.size + 2) W w')
      (first | assumption | exact HS0.out _ (by assumption) | exact HS0.out _ (Below.drew (by assumption)) | exact HS0.out _ (Below.refl _ _).drew | exact HS0.out _ (below_pair (by assumption) (Nat.le_refl _) _ _) | exact HS0.out _ (below_pair (below_pair (by assumption) (Nat.le_refl _) _ _) (Nat.le_succ _) _ _))
      (first
        | (go_at_call 70; (try clear hS); refine (rmul_b (ha.below (HB.out _ (s_below (by assumption)))) (hb.below (HB.out _ (s_below (by assumption)))) (by omega) (by omega)).mono ?_; rintro e w1 ⟨g1, n1, k1, rfl, hv1, hb1⟩; replace hv1 := hv1.mag; have hS := on_go HR.out (s_below (by assumption)) hb1; (first | replace hp2 := hp2.below hb1 | replace hp2 := hp2.drew.below hb1); clear hb1)
        | (go_at_call 22; refine (norm_r (K := _) ⟨true, _, ⟨_, rfl, hv1⟩, rfl⟩ (by omega)).mono ?_; rintro e w2 ⟨u, rfl, hu, hb2⟩; rw [show sgn true (m * n) = sgn false m * sgn true n from sgn_mul false true m n] at hu; obtain ⟨d, A2, n2, c2, rfl, HD, hg⟩ := hu.form; have hS2 := on_go HR.out hS hb2; clear hS; have hS := hS2; clear hS2 hu; (first | replace hp2 := hp2.below hb2 | replace hp2 := hp2.drew.below hb2); obtain ⟨f0, f1, c0, c1⟩ := hp2.facts; clear hb2))
    go_wp2_with fail
    refine bodyPost_ret (results_cell_row rfl _ _ _ _ _ _ _ rfl (hp2.set _ _) Tryd.underlying24 rfl sizeInt) rfl ?_
    exact ⟨_, rfl, ICan.mk HD.out (hg.pair hp2 _ _), below_pair (HB.out _ hS) (by omega) _ _⟩
  · obtain ⟨W, hW, hp0, hp1, hp2, hsz, hbW⟩ := enter2 w 24 (.bool true) (.slice A0 n0 k0) (.bool false) (.slice A1 n1' k1')
    have hS0 : ∀ w', Below (w.heap.size + 2) W w' → (fun w' => ((w'.cell? ⟨w.heap.size, 0, none⟩ = some (.bool true) ∧ w'.cell? ⟨w.heap.size, 1, none⟩ = some (.slice A0 n0 k0)) ∧ (w'.cell? ⟨w.heap.size + 1, 0, none⟩ = some (.bool false) ∧ w'.cell? ⟨w.heap.size + 1, 1, none⟩ = some (.slice A1 n1' k1'))) ∧ Below (w.heap.size + 2) W w') w' := fun w' h => ⟨⟨⟨(hp0.keep h (by omega)).facts.2.2.1, (hp0.keep h (by omega)).facts.2.2.2⟩, ⟨(hp1.keep h (by omega)).facts.2.2.1, (hp1.keep h (by omega)).facts.2.2.2⟩⟩, h⟩
    have hR0 : w.heap.size + 2 ≤ W.heap.size := by omega
    have hB0 : ∀ w', Below (w.heap.size + 2) W w' → Below w.heap.size w w' := fun w' h => hbW.trans (h.mono (by omega))
    obtain ⟨_, _, c00, c01⟩ := hp0.facts
    obtain ⟨_, _, c10, c11⟩ := hp1.facts
    have HS0 := Lib.hid hS0
    have HR := Lib.hid hR0
    have HB := Lib.hid hB0
    have HW := Lib.hid hW
    clear hS0 hR0 hB0 hbW hsz hW
    go_enter Tryd.func36, Tryd.ntmps36
    go_wp2_with fail
    rw [← HW.out]
    go_region_held3 (fun w' => ((w'.cell? ⟨w.heap.size, 0, none⟩ = some (.bool true) ∧ w'.cell? ⟨w.heap.size, 1, none⟩ = some (.slice A0 n0 k0)) ∧ (w'.cell? ⟨w.heap.size + 1, 0, none⟩ = some (.bool false) ∧ w'.cell? ⟨w.heap.size + 1, 1, none⟩ = some (.slice A1 n1' k1'))) ∧ Below (w.heap.size + 2) W w')
      (first | assumption | exact HS0.out _ (by assumption) | exact HS0.out _ (Below.drew (by assumption)) | exact HS0.out _ (Below.refl _ _).drew | exact HS0.out _ (below_pair (by assumption) (Nat.le_refl _) _ _) | exact HS0.out _ (below_pair (below_pair (by assumption) (Nat.le_refl _) _ _) (Nat.le_succ _) _ _))
      (first
        | (go_at_call 70; (try clear hS); refine (rmul_b (ha.below (HB.out _ (s_below (by assumption)))) (hb.below (HB.out _ (s_below (by assumption)))) (by omega) (by omega)).mono ?_; rintro e w1 ⟨g1, n1, k1, rfl, hv1, hb1⟩; replace hv1 := hv1.mag; have hS := on_go HR.out (s_below (by assumption)) hb1; (first | replace hp2 := hp2.below hb1 | replace hp2 := hp2.drew.below hb1); clear hb1)
        | (go_at_call 22; refine (norm_r (K := _) ⟨true, _, ⟨_, rfl, hv1⟩, rfl⟩ (by omega)).mono ?_; rintro e w2 ⟨u, rfl, hu, hb2⟩; rw [show sgn true (m * n) = sgn true m * sgn false n from sgn_mul true false m n] at hu; obtain ⟨d, A2, n2, c2, rfl, HD, hg⟩ := hu.form; have hS2 := on_go HR.out hS hb2; clear hS; have hS := hS2; clear hS2 hu; (first | replace hp2 := hp2.below hb2 | replace hp2 := hp2.drew.below hb2); obtain ⟨f0, f1, c0, c1⟩ := hp2.facts; clear hb2))
    go_wp2_with fail
    refine bodyPost_ret (results_cell_row rfl _ _ _ _ _ _ _ rfl (hp2.set _ _) Tryd.underlying24 rfl sizeInt) rfl ?_
    exact ⟨_, rfl, ICan.mk HD.out (hg.pair hp2 _ _), below_pair (HB.out _ hS) (by omega) _ _⟩
  · obtain ⟨W, hW, hp0, hp1, hp2, hsz, hbW⟩ := enter2 w 24 (.bool true) (.slice A0 n0 k0) (.bool true) (.slice A1 n1' k1')
    have hS0 : ∀ w', Below (w.heap.size + 2) W w' → (fun w' => ((w'.cell? ⟨w.heap.size, 0, none⟩ = some (.bool true) ∧ w'.cell? ⟨w.heap.size, 1, none⟩ = some (.slice A0 n0 k0)) ∧ (w'.cell? ⟨w.heap.size + 1, 0, none⟩ = some (.bool true) ∧ w'.cell? ⟨w.heap.size + 1, 1, none⟩ = some (.slice A1 n1' k1'))) ∧ Below (w.heap.size + 2) W w') w' := fun w' h => ⟨⟨⟨(hp0.keep h (by omega)).facts.2.2.1, (hp0.keep h (by omega)).facts.2.2.2⟩, ⟨(hp1.keep h (by omega)).facts.2.2.1, (hp1.keep h (by omega)).facts.2.2.2⟩⟩, h⟩
    have hR0 : w.heap.size + 2 ≤ W.heap.size := by omega
    have hB0 : ∀ w', Below (w.heap.size + 2) W w' → Below w.heap.size w w' := fun w' h => hbW.trans (h.mono (by omega))
    obtain ⟨_, _, c00, c01⟩ := hp0.facts
    obtain ⟨_, _, c10, c11⟩ := hp1.facts
    have HS0 := Lib.hid hS0
    have HR := Lib.hid hR0
    have HB := Lib.hid hB0
    have HW := Lib.hid hW
    clear hS0 hR0 hB0 hbW hsz hW
    go_enter Tryd.func36, Tryd.ntmps36
    go_wp2_with fail
    rw [← HW.out]
    go_region_held3 (fun w' => ((w'.cell? ⟨w.heap.size, 0, none⟩ = some (.bool true) ∧ w'.cell? ⟨w.heap.size, 1, none⟩ = some (.slice A0 n0 k0)) ∧ (w'.cell? ⟨w.heap.size + 1, 0, none⟩ = some (.bool true) ∧ w'.cell? ⟨w.heap.size + 1, 1, none⟩ = some (.slice A1 n1' k1'))) ∧ Below (w.heap.size + 2) W w')
      (first | assumption | exact HS0.out _ (by assumption) | exact HS0.out _ (Below.drew (by assumption)) | exact HS0.out _ (Below.refl _ _).drew | exact HS0.out _ (below_pair (by assumption) (Nat.le_refl _) _ _) | exact HS0.out _ (below_pair (below_pair (by assumption) (Nat.le_refl _) _ _) (Nat.le_succ _) _ _))
      (first
        | (go_at_call 70; (try clear hS); refine (rmul_b (ha.below (HB.out _ (s_below (by assumption)))) (hb.below (HB.out _ (s_below (by assumption)))) (by omega) (by omega)).mono ?_; rintro e w1 ⟨g1, n1, k1, rfl, hv1, hb1⟩; replace hv1 := hv1.mag; have hS := on_go HR.out (s_below (by assumption)) hb1; (first | replace hp2 := hp2.below hb1 | replace hp2 := hp2.drew.below hb1); clear hb1)
        | (go_at_call 22; refine (norm_r (K := _) ⟨false, _, ⟨_, rfl, hv1⟩, rfl⟩ (by omega)).mono ?_; rintro e w2 ⟨u, rfl, hu, hb2⟩; rw [show sgn false (m * n) = sgn true m * sgn true n from sgn_mul true true m n] at hu; obtain ⟨d, A2, n2, c2, rfl, HD, hg⟩ := hu.form; have hS2 := on_go HR.out hS hb2; clear hS; have hS := hS2; clear hS2 hu; (first | replace hp2 := hp2.below hb2 | replace hp2 := hp2.drew.below hb2); obtain ⟨f0, f1, c0, c1⟩ := hp2.facts; clear hb2))
    go_wp2_with fail
    refine bodyPost_ret (results_cell_row rfl _ _ _ _ _ _ _ rfl (hp2.set _ _) Tryd.underlying24 rfl sizeInt) rfl ?_
    exact ⟨_, rfl, ICan.mk HD.out (hg.pair hp2 _ _), below_pair (HB.out _ hS) (by omega) _ _⟩
set_option maxRecDepth 100000 in
set_option maxHeartbeats 4000000 in
theorem sub_r {w : World} {a b : Value} {K L : Nat} {x y : Int} (ha : IV w a K x) (hb : IV w b L y) (hK : K + L < 4398046511104) :
    Calls Tryd.prog 35 #[a, b] w fun e w' => ∃ u, e = .returned u ∧ ICan w' u (K + L + 1) (x - y) ∧ Below w.heap.size w w' := by
  obtain ⟨s, m, ⟨sa, rfl, ha⟩, rfl⟩ := ha
  obtain ⟨t, n, ⟨sb, rfl, hb⟩, rfl⟩ := hb
  obtain ⟨W, hW, hp0, hp1, hp2, hsz, hbW⟩ := enter2 w 24 (.bool s) sa (.bool t) sb
  have hS0 : ∀ w', Below (w.heap.size + 2) W w' → (fun w' => ((w'.cell? ⟨w.heap.size, 0, none⟩ = some (.bool s) ∧ w'.cell? ⟨w.heap.size, 1, none⟩ = some sa) ∧ (w'.cell? ⟨w.heap.size + 1, 0, none⟩ = some (.bool t) ∧ w'.cell? ⟨w.heap.size + 1, 1, none⟩ = some sb)) ∧ Below (w.heap.size + 2) W w') w' := fun w' h => ⟨⟨⟨(hp0.keep h (by omega)).facts.2.2.1, (hp0.keep h (by omega)).facts.2.2.2⟩, ⟨(hp1.keep h (by omega)).facts.2.2.1, (hp1.keep h (by omega)).facts.2.2.2⟩⟩, h⟩
  have hR0 : w.heap.size + 2 ≤ W.heap.size := by omega
  have hB0 : ∀ w', Below (w.heap.size + 2) W w' → Below w.heap.size w w' := fun w' h => hbW.trans (h.mono (by omega))
  obtain ⟨_, _, c00, c01⟩ := hp0.facts
  obtain ⟨_, _, c10, c11⟩ := hp1.facts
  have HS0 := Lib.hid hS0
  have HR := Lib.hid hR0
  have HB := Lib.hid hB0
  have HW := Lib.hid hW
  clear hS0 hR0 hB0 hbW hsz hW
  go_enter Tryd.func35, Tryd.ntmps35
  go_wp2_with fail
  rw [← HW.out]
  go_region_held3 (fun w' => ((w'.cell? ⟨w.heap.size, 0, none⟩ = some (.bool s) ∧ w'.cell? ⟨w.heap.size, 1, none⟩ = some sa) ∧ (w'.cell? ⟨w.heap.size + 1, 0, none⟩ = some (.bool t) ∧ w'.cell? ⟨w.heap.size + 1, 1, none⟩ = some sb)) ∧ Below (w.heap.size + 2) W w')
    (first | assumption | exact HS0.out _ (by assumption) | exact HS0.out _ (Below.drew (by assumption)) | exact HS0.out _ (Below.refl _ _).drew | exact HS0.out _ (below_pair (by assumption) (Nat.le_refl _) _ _) | exact HS0.out _ (below_pair (below_pair (by assumption) (Nat.le_refl _) _ _) (Nat.le_succ _) _ _))
    (first
      | (go_at_call 32; (try clear hS); refine (neg_r ⟨t, n, ⟨sb, rfl, (hb.below (HB.out _ (s_below (by assumption))))⟩, rfl⟩ (by omega)).mono ?_; rintro e w1 ⟨v1, rfl, hv1, hb1⟩; have hS := on_go HR.out (s_below (by assumption)) hb1; (first | replace hp2 := hp2.below hb1 | replace hp2 := hp2.drew.below hb1); clear hb1)
      | (go_at_call 34; (try clear hS); refine (add_r ⟨s, m, ⟨sa, rfl, (ha.below (HB.out _ (s_below (by assumption))))⟩, rfl⟩ hv1.iv (by omega)).mono ?_; rintro e w2 ⟨v2, rfl, hv2, hb2⟩; have hS := on_go HR.out (s_below (by assumption)) hb2; (first | replace hp2 := hp2.below hb2 | replace hp2 := hp2.drew.below hb2); obtain ⟨d, A2, n2, c2, rfl, HD, hg⟩ := hv2.form; clear hv2; obtain ⟨f0, f1, c0, c1⟩ := hp2.facts; clear hb2))
  rw [← Int.sub_eq_add_neg] at HD hg
  go_wp2_with fail
  refine bodyPost_ret (results_cell_row rfl _ _ _ _ _ _ _ rfl (hp2.set _ _) Tryd.underlying24 rfl sizeInt) rfl ?_
  exact ⟨_, rfl, ICan.mk HD.out (hg.pair hp2 _ _), below_pair (HB.out _ hS) (by omega) _ _⟩
end Go.Proofs.YtiidghfkdjefgaaDoor

/-
  zint.Sign, Add, Sub, Mul, Cmp: contracts.
-/
import Derived.Test.YtiidghfkdjefgaaDoorZOne
import Derived.Deep.RegionHeld3
namespace Go.Proofs.YtiidghfkdjefgaaDoor
open Go.RowKit

theorem N.nv_ne_of {l : List Nat} {k : Nat} (h : N.dg l k ≠ 0) : N.nv l ≠ 0 := by
  have hk : k < l.length := by
    rcases Nat.lt_or_ge k l.length with h1 | h1
    · exact h1
    · exact absurd (N.dg_ge l k h1) h
  have h1 := N.nv_split l k
  rw [Nat.min_eq_left (by omega), N.nv_drop l k hk] at h1
  have h2 : 0 < 4294967296 ^ k * (N.dg l k + 4294967296 * N.nv (l.drop (k + 1))) := Nat.mul_pos (Nat.pow_pos (by omega)) (by omega)
  omega
theorem N.nv_zero_of {l : List Nat} (h : ∀ j, j < l.length → N.dg l j = 0) : N.nv l = 0 := by
  rw [N.nv_of_zero (n := 0) (l := l) (fun j _ => by
    rcases Nat.lt_or_ge j l.length with h1 | h1
    · exact h j h1
    · exact N.dg_ge l j h1)]
  rfl
theorem new_le {b B : Nat} {W w : World} (hB : B ≤ W.heap.size) (h : Below B W w) (hb : b ≤ B) : b ≤ w.heap.size := Nat.le_trans hb (Nat.le_trans hB h.size)
theorem sgn_lt {s : Bool} {x : Nat} (h : sgn s x < 0) : s = true := by
  cases s
  · rw [sgn_false] at h; omega
  · rfl
theorem sgn_gt {s : Bool} {x : Nat} (h : 0 < sgn s x) : s = false := by
  cases s
  · rfl
  · rw [sgn_true] at h; omega
set_option maxRecDepth 100000 in
set_option maxHeartbeats 800000 in
theorem sign_i {w : World} {v : Value} {K : Nat} {z : Int} (h : IV w v K z) (hK : K ≤ 9223372036854775807) :
    Calls Tryd.prog 27 #[v] w fun e w' => e = .returned (.int .i64 (isgn z)) ∧ Below w.heap.size w w' := by
  obtain ⟨s, x, ⟨sl, rfl, A, n, c, l, rfl, hp, hs, rfl, hn⟩, rfl⟩ := h
  obtain ⟨G, hG⟩ : ∃ G, G = isgn (sgn s (N.nv l)) := ⟨_, rfl⟩
  rw [← hG]
  have HG := Lib.hid hG
  clear hG
  obtain ⟨W, hW, hp0, hbW⟩ : ∃ W : World, W = w.alloc (.cells #[.bool s, .slice A n c] 24) ∧ Pair W w.heap.size 24 (.bool s) (.slice A n c) ∧ Below w.heap.size w W := ⟨_, rfl, Pair.new _ _ _ _, below_alloc1 _ _⟩
  obtain ⟨_, _, c0, c1⟩ := hp0.facts
  have hsW := hs.below hbW
  have hl := hs.len
  have HL := Lib.hid hl
  have HW := Lib.hid hW
  clear hW hs hl hp0
  go_enter Tryd.func27, Tryd.ntmps27
  go_wp2_with fail
  rw [← HW.out]
  go_loopg [8] n (fun gk v8 wr => ∃ k : Nat, gk + k = n ∧ v8 = .int .i64 (k : Nat) ∧ (∀ j, j < k → N.dg l j = 0) ∧ W = wr)
  case atStart => exact ⟨0, rfl, rfl, fun j hj => by omega, rfl⟩
  case round =>
    obtain ⟨k, hk, rfl, hz, rfl⟩ := hrel
    have HZ := Lib.hid hz
    clear hz
    by_cases hkn : k < n
    · obtain ⟨b, o, rfl, hc⟩ := hsW.cells (by omega)
      have hck := hc k hkn
      have HC := Lib.hid hc
      clear hc
      by_cases hd : N.dg l k = 0
      · have ht : ((N.dg l k : Int) == 0) = true := by simpa using hd
        have HD := Lib.hid hd
        clear hd
        go_wp2_with fail
        go_roundg (gk - 1)
        case measure => omega
        case rel =>
          refine ⟨k + 1, by omega, by go_num, fun j hj => ?_, rfl⟩
          rcases Nat.lt_or_ge j k with h3 | h3
          · exact HZ.out j h3
          · obtain rfl : j = k := by omega
            exact HD.out
      · have ht : ((N.dg l k : Int) == 0) = false := by simpa using hd
        have hx := N.nv_ne_of hd
        have HX := Lib.hid hx
        clear hx hd
        cases s
        all_goals
          go_wp2_with fail
          go_ret
          exact ⟨by rw [HG.out, isgn_sgn, if_neg HX.out]; rfl, hbW⟩
    · obtain rfl : k = n := by omega
      have hx : N.nv l = 0 := N.nv_zero_of (by rw [HL.out]; exact HZ.out)
      have HX := Lib.hid hx
      clear hx
      go_wp2_with fail
      go_ret
      exact ⟨by rw [HG.out, isgn_sgn, if_pos HX.out]; rfl, hbW⟩
set_option maxRecDepth 100000 in
set_option maxHeartbeats 4000000 in
theorem add_n {w : World} {a b : Value} {K L : Nat} {x y : Int} (ha : IV w a K x) (hb : IV w b L y) (hK : K + L < 17592186044416) :
    Calls Tryd.prog 23 #[a, b] w fun e w' => ∃ u, e = .returned u ∧ ICan w' u (K + L + 1) (x + y) ∧ Below w.heap.size w w' ∧ NwI w.heap.size w' u := by
  obtain ⟨s, m, ⟨sa, rfl, ha⟩, rfl⟩ := ha
  obtain ⟨t, n, ⟨sb, rfl, hb⟩, rfl⟩ := hb
  cases s <;> cases t
  · obtain ⟨W, hW, hp0, hp1, hp2, hsz, hbW⟩ := enter2 w 24 (.bool false) sa (.bool false) sb
    have hS0 : ∀ w', Below (w.heap.size + 2) W w' → (fun w' => ((w'.cell? ⟨w.heap.size, 0, none⟩ = some (.bool false) ∧ w'.cell? ⟨w.heap.size, 1, none⟩ = some sa) ∧ (w'.cell? ⟨w.heap.size + 1, 0, none⟩ = some (.bool false) ∧ w'.cell? ⟨w.heap.size + 1, 1, none⟩ = some sb)) ∧ Below (w.heap.size + 2) W w') w' := fun w' h => ⟨⟨⟨(hp0.keep h (by omega)).facts.2.2.1, (hp0.keep h (by omega)).facts.2.2.2⟩, ⟨(hp1.keep h (by omega)).facts.2.2.1, (hp1.keep h (by omega)).facts.2.2.2⟩⟩, h⟩
    have hR0 : w.heap.size + 2 ≤ W.heap.size := by omega
    have hB0 : ∀ w', Below (w.heap.size + 2) W w' → Below w.heap.size w w' := fun w' h => hbW.trans (h.mono (by omega))
    obtain ⟨_, _, c00, c01⟩ := hp0.facts
    obtain ⟨_, _, c10, c11⟩ := hp1.facts
    have HS0 := Lib.hid hS0
    have HR := Lib.hid hR0
    have HB := Lib.hid hB0
    have HW := Lib.hid hW
    clear hS0 hR0 hB0 hbW hsz hW
    go_enter Tryd.func23, Tryd.ntmps23
    go_wp2_with fail
    rw [← HW.out]
    go_region_held3 (fun w' => ((w'.cell? ⟨w.heap.size, 0, none⟩ = some (.bool false) ∧ w'.cell? ⟨w.heap.size, 1, none⟩ = some sa) ∧ (w'.cell? ⟨w.heap.size + 1, 0, none⟩ = some (.bool false) ∧ w'.cell? ⟨w.heap.size + 1, 1, none⟩ = some sb)) ∧ Below (w.heap.size + 2) W w')
      (first | assumption | exact HS0.out _ (by assumption) | exact HS0.out _ (Below.drew (by assumption)) | exact HS0.out _ (Below.refl _ _).drew | exact HS0.out _ (below_pair (by assumption) (Nat.le_refl _) _ _) | exact HS0.out _ (below_pair (below_pair (by assumption) (Nat.le_refl _) _ _) (Nat.le_succ _) _ _))
      (first
        | (go_at_call 63; (try clear hS); refine (add_v (ha.below (HB.out _ (s_below (by assumption)))).val (hb.below (HB.out _ (s_below (by assumption)))).val (by omega)).mono ?_; rintro e w1 ⟨v1, rfl, hv1, hb1⟩; have hS := on_go HR.out (s_below (by assumption)) hb1; (first | replace hp2 := hp2.below hb1 | replace hp2 := hp2.drew.below hb1); replace hv1 := hv1.bag.mag; clear hb1)
        | (go_at_call 53; refine (made_n _ false v1 _ _ hv1 (by omega)).mono ?_; rintro e w2 ⟨u, rfl, hu, hb2, hn⟩; have HN := Lib.hid (hn.le (new_le HR.out (s_below (by assumption)) (Nat.le_add_right w.heap.size 2))); clear hn; rw [sgn_add_same] at hu; obtain ⟨d, A2, n2, c2, rfl, HD, hg⟩ := hu.form; have hS2 := on_go HR.out hS hb2; clear hS; have hS := hS2; clear hS2 hu; (first | replace hp2 := hp2.below hb2 | replace hp2 := hp2.drew.below hb2); obtain ⟨f0, f1, c0, c1⟩ := hp2.facts; clear hb2))
    go_wp2_with fail
    refine bodyPost_ret (results_cell_row rfl _ _ _ _ _ _ _ rfl (hp2.set _ _) Tryd.underlying24 rfl sizeInt) rfl ?_
    exact ⟨_, rfl, ICan.mk HD.out (hg.pair hp2 _ _), below_pair (HB.out _ hS) (by omega) _ _, HN.out.pair hp2 _ _⟩
  · rcases Nat.lt_or_ge m n with hx | hx
    · obtain ⟨A0, n0, k0, rfl⟩ := ha.slice
      obtain ⟨A1, n1, k1, rfl⟩ := hb.slice
      obtain ⟨W, hW, hp0, hp1, hp2, hsz, hbW⟩ := enter2 w 24 (.bool false) (.slice A0 n0 k0) (.bool true) (.slice A1 n1 k1)
      have HW := Lib.hid hW
      clear hW
      go_enter Tryd.func23, Tryd.ntmps23
      go_wp2_with fail
      rw [← HW.out]
      refine (cmp_v (ha.below hbW).val (hb.below hbW).val (by omega) (by omega)).mono ?_
      rintro e w1 ⟨rfl, hb1⟩
      have tc : decide (N.cmpN m n < 0) = true := by rcases N.cmpN_cases m n with ⟨h, e⟩ | ⟨h, e⟩ | ⟨h, e⟩ <;> rw [e] <;> first | rfl | omega
      obtain ⟨cc, hcc⟩ : ∃ cc, cc = N.cmpN m n := ⟨_, rfl⟩
      rw [← hcc] at tc ⊢
      clear hcc
      replace hp0 := hp0.below hb1
      replace hp1 := hp1.below hb1
      replace hp2 := hp2.below hb1
      have hbw := below_on hbW hb1
      clear hb1 hbW
      obtain ⟨f00, f01, c00, c01⟩ := hp0.facts
      obtain ⟨f10, f11, c10, c11⟩ := hp1.facts
      go_wp2_with fail
      obtain ⟨W3, hW3, q0, hb3⟩ : ∃ W3 : World, W3 = ((((w1.setCell ⟨w.heap.size, 0, none⟩ (.bool true)).setCell ⟨w.heap.size, 1, none⟩ (.slice A1 n1 k1)).setCell ⟨w.heap.size + 1, 0, none⟩ (.bool false)).setCell ⟨w.heap.size + 1, 1, none⟩ (.slice A0 n0 k0)) ∧ (Pair W3 w.heap.size 24 (.bool true) (.slice A1 n1 k1) ∧ Pair W3 (w.heap.size + 2) 24 (.bool false) (.slice none 0 0)) ∧ Below w.heap.size w W3 :=
        ⟨_, rfl, ⟨(hp0.set _ _).far (by omega) _ _, (hp2.far (by omega) _ _).far (by omega) _ _⟩, below_pair (below_pair hbw (Nat.le_refl _) _ _) (Nat.le_succ _) _ _⟩
      try rw [← hW3]
      clear hW3 hp0 hp1 hp2 f00 f01 c00 c01 f10 f11 c10 c11
      obtain ⟨q0, q2⟩ := q0
      refine (sub_v (hb.below hb3).val (ha.below hb3).val (by omega) (by omega) (Nat.le_of_lt hx)).mono ?_
      rintro e w4 ⟨v1, rfl, hv1, hb4⟩
      replace hv1 := hv1.bag.mag
      replace hbw := below_on hb3 hb4
      replace q0 := q0.below hb4
      replace q2 := q2.below hb4
      clear hb3 hb4
      obtain ⟨f00, f01, c00, c01⟩ := q0.facts
      go_wp2_with fail
      refine (made_n _ true v1 _ (n - m) hv1 (by omega)).mono ?_
      rintro e w5 ⟨u, rfl, hu, hb5, hn⟩
      rw [sgn_add_lt (s := false) (t := true) (by decide) hx] at hu
      have HN := Lib.hid (hn.le (base' := w.heap.size) hbw.size)
      clear hn
      obtain ⟨d, A2, n2, c2, rfl, HD, hg⟩ := hu.form
      clear hu f00 f01 c00 c01 q0
      have hp1 := q2.below hb5
      replace hbw := below_on hbw hb5
      obtain ⟨f0, f1, c0, c1⟩ := hp1.facts
      clear q2 hb5
      go_wp2_with fail
      refine bodyPost_ret (results_cell_row rfl _ _ _ _ _ _ _ rfl (hp1.set _ _) Tryd.underlying24 rfl sizeInt) rfl ?_
      exact ⟨_, rfl, ICan.mk HD.out ((hg.le (by omega)).pair hp1 _ _), below_pair hbw (by omega) _ _, HN.out.pair hp1 _ _⟩
    · obtain ⟨A0, n0, k0, rfl⟩ := ha.slice
      obtain ⟨A1, n1, k1, rfl⟩ := hb.slice
      obtain ⟨W, hW, hp0, hp1, hp2, hsz, hbW⟩ := enter2 w 24 (.bool false) (.slice A0 n0 k0) (.bool true) (.slice A1 n1 k1)
      have HW := Lib.hid hW
      clear hW
      go_enter Tryd.func23, Tryd.ntmps23
      go_wp2_with fail
      rw [← HW.out]
      refine (cmp_v (ha.below hbW).val (hb.below hbW).val (by omega) (by omega)).mono ?_
      rintro e w1 ⟨rfl, hb1⟩
      have tc : decide (N.cmpN m n < 0) = false := by rcases N.cmpN_cases m n with ⟨h, e⟩ | ⟨h, e⟩ | ⟨h, e⟩ <;> rw [e] <;> first | rfl | omega
      obtain ⟨cc, hcc⟩ : ∃ cc, cc = N.cmpN m n := ⟨_, rfl⟩
      rw [← hcc] at tc ⊢
      clear hcc
      replace hp0 := hp0.below hb1
      replace hp1 := hp1.below hb1
      replace hp2 := hp2.below hb1
      have hbw := below_on hbW hb1
      clear hb1 hbW
      obtain ⟨f00, f01, c00, c01⟩ := hp0.facts
      obtain ⟨f10, f11, c10, c11⟩ := hp1.facts
      go_wp2_with fail
      refine (sub_v (ha.below hbw).val (hb.below hbw).val (by omega) (by omega) hx).mono ?_
      rintro e w4 ⟨v1, rfl, hv1, hb4⟩
      replace hv1 := hv1.bag.mag
      replace hbw := below_on hbw hb4
      have q0 := hp0.below hb4
      have q2 := hp2.below hb4
      clear hb4 hp0 hp1 hp2 f00 f01 c00 c01 f10 f11 c10 c11
      obtain ⟨f00, f01, c00, c01⟩ := q0.facts
      go_wp2_with fail
      refine (made_n _ false v1 _ (m - n) hv1 (by omega)).mono ?_
      rintro e w5 ⟨u, rfl, hu, hb5, hn⟩
      rw [sgn_add_ge (s := false) (t := true) (by decide) hx] at hu
      have HN := Lib.hid (hn.le (base' := w.heap.size) hbw.size)
      clear hn
      obtain ⟨d, A2, n2, c2, rfl, HD, hg⟩ := hu.form
      clear hu f00 f01 c00 c01 q0
      have hp1 := q2.below hb5
      replace hbw := below_on hbw hb5
      obtain ⟨f0, f1, c0, c1⟩ := hp1.facts
      clear q2 hb5
      go_wp2_with fail
      refine bodyPost_ret (results_cell_row rfl _ _ _ _ _ _ _ rfl (hp1.set _ _) Tryd.underlying24 rfl sizeInt) rfl ?_
      exact ⟨_, rfl, ICan.mk HD.out ((hg.le (by omega)).pair hp1 _ _), below_pair hbw (by omega) _ _, HN.out.pair hp1 _ _⟩
  · rcases Nat.lt_or_ge m n with hx | hx
    · obtain ⟨A0, n0, k0, rfl⟩ := ha.slice
      obtain ⟨A1, n1, k1, rfl⟩ := hb.slice
      obtain ⟨W, hW, hp0, hp1, hp2, hsz, hbW⟩ := enter2 w 24 (.bool true) (.slice A0 n0 k0) (.bool false) (.slice A1 n1 k1)
      have HW := Lib.hid hW
      clear hW
      go_enter Tryd.func23, Tryd.ntmps23
      go_wp2_with fail
      rw [← HW.out]
      refine (cmp_v (ha.below hbW).val (hb.below hbW).val (by omega) (by omega)).mono ?_
      rintro e w1 ⟨rfl, hb1⟩
      have tc : decide (N.cmpN m n < 0) = true := by rcases N.cmpN_cases m n with ⟨h, e⟩ | ⟨h, e⟩ | ⟨h, e⟩ <;> rw [e] <;> first | rfl | omega
      obtain ⟨cc, hcc⟩ : ∃ cc, cc = N.cmpN m n := ⟨_, rfl⟩
      rw [← hcc] at tc ⊢
      clear hcc
      replace hp0 := hp0.below hb1
      replace hp1 := hp1.below hb1
      replace hp2 := hp2.below hb1
      have hbw := below_on hbW hb1
      clear hb1 hbW
      obtain ⟨f00, f01, c00, c01⟩ := hp0.facts
      obtain ⟨f10, f11, c10, c11⟩ := hp1.facts
      go_wp2_with fail
      obtain ⟨W3, hW3, q0, hb3⟩ : ∃ W3 : World, W3 = ((((w1.setCell ⟨w.heap.size, 0, none⟩ (.bool false)).setCell ⟨w.heap.size, 1, none⟩ (.slice A1 n1 k1)).setCell ⟨w.heap.size + 1, 0, none⟩ (.bool true)).setCell ⟨w.heap.size + 1, 1, none⟩ (.slice A0 n0 k0)) ∧ (Pair W3 w.heap.size 24 (.bool false) (.slice A1 n1 k1) ∧ Pair W3 (w.heap.size + 2) 24 (.bool false) (.slice none 0 0)) ∧ Below w.heap.size w W3 :=
        ⟨_, rfl, ⟨(hp0.set _ _).far (by omega) _ _, (hp2.far (by omega) _ _).far (by omega) _ _⟩, below_pair (below_pair hbw (Nat.le_refl _) _ _) (Nat.le_succ _) _ _⟩
      try rw [← hW3]
      clear hW3 hp0 hp1 hp2 f00 f01 c00 c01 f10 f11 c10 c11
      obtain ⟨q0, q2⟩ := q0
      refine (sub_v (hb.below hb3).val (ha.below hb3).val (by omega) (by omega) (Nat.le_of_lt hx)).mono ?_
      rintro e w4 ⟨v1, rfl, hv1, hb4⟩
      replace hv1 := hv1.bag.mag
      replace hbw := below_on hb3 hb4
      replace q0 := q0.below hb4
      replace q2 := q2.below hb4
      clear hb3 hb4
      obtain ⟨f00, f01, c00, c01⟩ := q0.facts
      go_wp2_with fail
      refine (made_n _ false v1 _ (n - m) hv1 (by omega)).mono ?_
      rintro e w5 ⟨u, rfl, hu, hb5, hn⟩
      rw [sgn_add_lt (s := true) (t := false) (by decide) hx] at hu
      have HN := Lib.hid (hn.le (base' := w.heap.size) hbw.size)
      clear hn
      obtain ⟨d, A2, n2, c2, rfl, HD, hg⟩ := hu.form
      clear hu f00 f01 c00 c01 q0
      have hp1 := q2.below hb5
      replace hbw := below_on hbw hb5
      obtain ⟨f0, f1, c0, c1⟩ := hp1.facts
      clear q2 hb5
      go_wp2_with fail
      refine bodyPost_ret (results_cell_row rfl _ _ _ _ _ _ _ rfl (hp1.set _ _) Tryd.underlying24 rfl sizeInt) rfl ?_
      exact ⟨_, rfl, ICan.mk HD.out ((hg.le (by omega)).pair hp1 _ _), below_pair hbw (by omega) _ _, HN.out.pair hp1 _ _⟩
    · obtain ⟨A0, n0, k0, rfl⟩ := ha.slice
      obtain ⟨A1, n1, k1, rfl⟩ := hb.slice
      obtain ⟨W, hW, hp0, hp1, hp2, hsz, hbW⟩ := enter2 w 24 (.bool true) (.slice A0 n0 k0) (.bool false) (.slice A1 n1 k1)
      have HW := Lib.hid hW
      clear hW
      go_enter Tryd.func23, Tryd.ntmps23
      go_wp2_with fail
      rw [← HW.out]
      refine (cmp_v (ha.below hbW).val (hb.below hbW).val (by omega) (by omega)).mono ?_
      rintro e w1 ⟨rfl, hb1⟩
      have tc : decide (N.cmpN m n < 0) = false := by rcases N.cmpN_cases m n with ⟨h, e⟩ | ⟨h, e⟩ | ⟨h, e⟩ <;> rw [e] <;> first | rfl | omega
      obtain ⟨cc, hcc⟩ : ∃ cc, cc = N.cmpN m n := ⟨_, rfl⟩
      rw [← hcc] at tc ⊢
      clear hcc
      replace hp0 := hp0.below hb1
      replace hp1 := hp1.below hb1
      replace hp2 := hp2.below hb1
      have hbw := below_on hbW hb1
      clear hb1 hbW
      obtain ⟨f00, f01, c00, c01⟩ := hp0.facts
      obtain ⟨f10, f11, c10, c11⟩ := hp1.facts
      go_wp2_with fail
      refine (sub_v (ha.below hbw).val (hb.below hbw).val (by omega) (by omega) hx).mono ?_
      rintro e w4 ⟨v1, rfl, hv1, hb4⟩
      replace hv1 := hv1.bag.mag
      replace hbw := below_on hbw hb4
      have q0 := hp0.below hb4
      have q2 := hp2.below hb4
      clear hb4 hp0 hp1 hp2 f00 f01 c00 c01 f10 f11 c10 c11
      obtain ⟨f00, f01, c00, c01⟩ := q0.facts
      go_wp2_with fail
      refine (made_n _ true v1 _ (m - n) hv1 (by omega)).mono ?_
      rintro e w5 ⟨u, rfl, hu, hb5, hn⟩
      rw [sgn_add_ge (s := true) (t := false) (by decide) hx] at hu
      have HN := Lib.hid (hn.le (base' := w.heap.size) hbw.size)
      clear hn
      obtain ⟨d, A2, n2, c2, rfl, HD, hg⟩ := hu.form
      clear hu f00 f01 c00 c01 q0
      have hp1 := q2.below hb5
      replace hbw := below_on hbw hb5
      obtain ⟨f0, f1, c0, c1⟩ := hp1.facts
      clear q2 hb5
      go_wp2_with fail
      refine bodyPost_ret (results_cell_row rfl _ _ _ _ _ _ _ rfl (hp1.set _ _) Tryd.underlying24 rfl sizeInt) rfl ?_
      exact ⟨_, rfl, ICan.mk HD.out ((hg.le (by omega)).pair hp1 _ _), below_pair hbw (by omega) _ _, HN.out.pair hp1 _ _⟩
  · obtain ⟨W, hW, hp0, hp1, hp2, hsz, hbW⟩ := enter2 w 24 (.bool true) sa (.bool true) sb
    have hS0 : ∀ w', Below (w.heap.size + 2) W w' → (fun w' => ((w'.cell? ⟨w.heap.size, 0, none⟩ = some (.bool true) ∧ w'.cell? ⟨w.heap.size, 1, none⟩ = some sa) ∧ (w'.cell? ⟨w.heap.size + 1, 0, none⟩ = some (.bool true) ∧ w'.cell? ⟨w.heap.size + 1, 1, none⟩ = some sb)) ∧ Below (w.heap.size + 2) W w') w' := fun w' h => ⟨⟨⟨(hp0.keep h (by omega)).facts.2.2.1, (hp0.keep h (by omega)).facts.2.2.2⟩, ⟨(hp1.keep h (by omega)).facts.2.2.1, (hp1.keep h (by omega)).facts.2.2.2⟩⟩, h⟩
    have hR0 : w.heap.size + 2 ≤ W.heap.size := by omega
    have hB0 : ∀ w', Below (w.heap.size + 2) W w' → Below w.heap.size w w' := fun w' h => hbW.trans (h.mono (by omega))
    obtain ⟨_, _, c00, c01⟩ := hp0.facts
    obtain ⟨_, _, c10, c11⟩ := hp1.facts
    have HS0 := Lib.hid hS0
    have HR := Lib.hid hR0
    have HB := Lib.hid hB0
    have HW := Lib.hid hW
    clear hS0 hR0 hB0 hbW hsz hW
    go_enter Tryd.func23, Tryd.ntmps23
    go_wp2_with fail
    rw [← HW.out]
    go_region_held3 (fun w' => ((w'.cell? ⟨w.heap.size, 0, none⟩ = some (.bool true) ∧ w'.cell? ⟨w.heap.size, 1, none⟩ = some sa) ∧ (w'.cell? ⟨w.heap.size + 1, 0, none⟩ = some (.bool true) ∧ w'.cell? ⟨w.heap.size + 1, 1, none⟩ = some sb)) ∧ Below (w.heap.size + 2) W w')
      (first | assumption | exact HS0.out _ (by assumption) | exact HS0.out _ (Below.drew (by assumption)) | exact HS0.out _ (Below.refl _ _).drew | exact HS0.out _ (below_pair (by assumption) (Nat.le_refl _) _ _) | exact HS0.out _ (below_pair (below_pair (by assumption) (Nat.le_refl _) _ _) (Nat.le_succ _) _ _))
      (first
        | (go_at_call 63; (try clear hS); refine (add_v (ha.below (HB.out _ (s_below (by assumption)))).val (hb.below (HB.out _ (s_below (by assumption)))).val (by omega)).mono ?_; rintro e w1 ⟨v1, rfl, hv1, hb1⟩; have hS := on_go HR.out (s_below (by assumption)) hb1; (first | replace hp2 := hp2.below hb1 | replace hp2 := hp2.drew.below hb1); replace hv1 := hv1.bag.mag; clear hb1)
        | (go_at_call 53; refine (made_n _ true v1 _ _ hv1 (by omega)).mono ?_; rintro e w2 ⟨u, rfl, hu, hb2, hn⟩; have HN := Lib.hid (hn.le (new_le HR.out (s_below (by assumption)) (Nat.le_add_right w.heap.size 2))); clear hn; rw [sgn_add_same] at hu; obtain ⟨d, A2, n2, c2, rfl, HD, hg⟩ := hu.form; have hS2 := on_go HR.out hS hb2; clear hS; have hS := hS2; clear hS2 hu; (first | replace hp2 := hp2.below hb2 | replace hp2 := hp2.drew.below hb2); obtain ⟨f0, f1, c0, c1⟩ := hp2.facts; clear hb2))
    go_wp2_with fail
    refine bodyPost_ret (results_cell_row rfl _ _ _ _ _ _ _ rfl (hp2.set _ _) Tryd.underlying24 rfl sizeInt) rfl ?_
    exact ⟨_, rfl, ICan.mk HD.out (hg.pair hp2 _ _), below_pair (HB.out _ hS) (by omega) _ _, HN.out.pair hp2 _ _⟩
theorem add_i {w : World} {a b : Value} {K L : Nat} {x y : Int} (ha : IV w a K x) (hb : IV w b L y) (hK : K + L < 17592186044416) :
    Calls Tryd.prog 23 #[a, b] w fun e w' => ∃ u, e = .returned u ∧ ICan w' u (K + L + 1) (x + y) ∧ Below w.heap.size w w' :=
  (add_n ha hb hK).mono fun _ _ ⟨u, h1, h2, h3, _⟩ => ⟨u, h1, h2, h3⟩
set_option maxRecDepth 100000 in
set_option maxHeartbeats 4000000 in
theorem mul_n {w : World} {a b : Value} {K L : Nat} {x y : Int} (ha : IV w a K x) (hb : IV w b L y) (hK : K + L < 17592186044416) :
    Calls Tryd.prog 25 #[a, b] w fun e w' => ∃ u, e = .returned u ∧ ICan w' u (K + L) (x * y) ∧ Below w.heap.size w w' ∧ NwI w.heap.size w' u := by
  obtain ⟨s, m, ⟨sa, rfl, ha⟩, rfl⟩ := ha
  obtain ⟨t, n, ⟨sb, rfl, hb⟩, rfl⟩ := hb
  cases s <;> cases t
  · obtain ⟨W, hW, hp0, hp1, hp2, hsz, hbW⟩ := enter2 w 24 (.bool false) sa (.bool false) sb
    have hS0 : ∀ w', Below (w.heap.size + 2) W w' → (fun w' => ((w'.cell? ⟨w.heap.size, 0, none⟩ = some (.bool false) ∧ w'.cell? ⟨w.heap.size, 1, none⟩ = some sa) ∧ (w'.cell? ⟨w.heap.size + 1, 0, none⟩ = some (.bool false) ∧ w'.cell? ⟨w.heap.size + 1, 1, none⟩ = some sb)) ∧ Below (w.heap.size + 2) W w') w' := fun w' h => ⟨⟨⟨(hp0.keep h (by omega)).facts.2.2.1, (hp0.keep h (by omega)).facts.2.2.2⟩, ⟨(hp1.keep h (by omega)).facts.2.2.1, (hp1.keep h (by omega)).facts.2.2.2⟩⟩, h⟩
    have hR0 : w.heap.size + 2 ≤ W.heap.size := by omega
    have hB0 : ∀ w', Below (w.heap.size + 2) W w' → Below w.heap.size w w' := fun w' h => hbW.trans (h.mono (by omega))
    obtain ⟨_, _, c00, c01⟩ := hp0.facts
    obtain ⟨_, _, c10, c11⟩ := hp1.facts
    have HS0 := Lib.hid hS0
    have HR := Lib.hid hR0
    have HB := Lib.hid hB0
    have HW := Lib.hid hW
    clear hS0 hR0 hB0 hbW hsz hW
    go_enter Tryd.func25, Tryd.ntmps25
    go_wp2_with fail
    rw [← HW.out]
    go_region_held3 (fun w' => ((w'.cell? ⟨w.heap.size, 0, none⟩ = some (.bool false) ∧ w'.cell? ⟨w.heap.size, 1, none⟩ = some sa) ∧ (w'.cell? ⟨w.heap.size + 1, 0, none⟩ = some (.bool false) ∧ w'.cell? ⟨w.heap.size + 1, 1, none⟩ = some sb)) ∧ Below (w.heap.size + 2) W w')
      (first | assumption | exact HS0.out _ (by assumption) | exact HS0.out _ (Below.drew (by assumption)) | exact HS0.out _ (Below.refl _ _).drew | exact HS0.out _ (below_pair (by assumption) (Nat.le_refl _) _ _) | exact HS0.out _ (below_pair (below_pair (by assumption) (Nat.le_refl _) _ _) (Nat.le_succ _) _ _))
      (first
        | (go_at_call 66; (try clear hS); refine (mul_v (ha.below (HB.out _ (s_below (by assumption)))).val (hb.below (HB.out _ (s_below (by assumption)))).val (by omega)).mono ?_; rintro e w1 ⟨v1, rfl, hv1, hb1⟩; have hS := on_go HR.out (s_below (by assumption)) hb1; (first | replace hp2 := hp2.below hb1 | replace hp2 := hp2.drew.below hb1); replace hv1 := hv1.bag.mag; clear hb1)
        | (go_at_call 53; refine (made_n _ false v1 _ _ hv1 (by omega)).mono ?_; rintro e w2 ⟨u, rfl, hu, hb2, hn⟩; have HN := Lib.hid (hn.le (new_le HR.out (s_below (by assumption)) (Nat.le_add_right w.heap.size 2))); clear hn; rw [show sgn false (m * n) = sgn false m * sgn false n from sgn_mul false false m n] at hu; obtain ⟨d, A2, n2, c2, rfl, HD, hg⟩ := hu.form; have hS2 := on_go HR.out hS hb2; clear hS; have hS := hS2; clear hS2 hu; (first | replace hp2 := hp2.below hb2 | replace hp2 := hp2.drew.below hb2); obtain ⟨f0, f1, c0, c1⟩ := hp2.facts; clear hb2))
    go_wp2_with fail
    refine bodyPost_ret (results_cell_row rfl _ _ _ _ _ _ _ rfl (hp2.set _ _) Tryd.underlying24 rfl sizeInt) rfl ?_
    exact ⟨_, rfl, ICan.mk HD.out (hg.pair hp2 _ _), below_pair (HB.out _ hS) (by omega) _ _, HN.out.pair hp2 _ _⟩
  · obtain ⟨W, hW, hp0, hp1, hp2, hsz, hbW⟩ := enter2 w 24 (.bool false) sa (.bool true) sb
    have hS0 : ∀ w', Below (w.heap.size + 2) W w' → (fun w' => ((w'.cell? ⟨w.heap.size, 0, none⟩ = some (.bool false) ∧ w'.cell? ⟨w.heap.size, 1, none⟩ = some sa) ∧ (w'.cell? ⟨w.heap.size + 1, 0, none⟩ = some (.bool true) ∧ w'.cell? ⟨w.heap.size + 1, 1, none⟩ = some sb)) ∧ Below (w.heap.size + 2) W w') w' := fun w' h => ⟨⟨⟨(hp0.keep h (by omega)).facts.2.2.1, (hp0.keep h (by omega)).facts.2.2.2⟩, ⟨(hp1.keep h (by omega)).facts.2.2.1, (hp1.keep h (by omega)).facts.2.2.2⟩⟩, h⟩
    have hR0 : w.heap.size + 2 ≤ W.heap.size := by omega
    have hB0 : ∀ w', Below (w.heap.size + 2) W w' → Below w.heap.size w w' := fun w' h => hbW.trans (h.mono (by omega))
    obtain ⟨_, _, c00, c01⟩ := hp0.facts
    obtain ⟨_, _, c10, c11⟩ := hp1.facts
    have HS0 := Lib.hid hS0
    have HR := Lib.hid hR0
    have HB := Lib.hid hB0
    have HW := Lib.hid hW
    clear hS0 hR0 hB0 hbW hsz hW
    go_enter Tryd.func25, Tryd.ntmps25
    go_wp2_with fail
    rw [← HW.out]
    go_region_held3 (fun w' => ((w'.cell? ⟨w.heap.size, 0, none⟩ = some (.bool false) ∧ w'.cell? ⟨w.heap.size, 1, none⟩ = some sa) ∧ (w'.cell? ⟨w.heap.size + 1, 0, none⟩ = some (.bool true) ∧ w'.cell? ⟨w.heap.size + 1, 1, none⟩ = some sb)) ∧ Below (w.heap.size + 2) W w')
      (first | assumption | exact HS0.out _ (by assumption) | exact HS0.out _ (Below.drew (by assumption)) | exact HS0.out _ (Below.refl _ _).drew | exact HS0.out _ (below_pair (by assumption) (Nat.le_refl _) _ _) | exact HS0.out _ (below_pair (below_pair (by assumption) (Nat.le_refl _) _ _) (Nat.le_succ _) _ _))
      (first
        | (go_at_call 66; (try clear hS); refine (mul_v (ha.below (HB.out _ (s_below (by assumption)))).val (hb.below (HB.out _ (s_below (by assumption)))).val (by omega)).mono ?_; rintro e w1 ⟨v1, rfl, hv1, hb1⟩; have hS := on_go HR.out (s_below (by assumption)) hb1; (first | replace hp2 := hp2.below hb1 | replace hp2 := hp2.drew.below hb1); replace hv1 := hv1.bag.mag; clear hb1)
        | (go_at_call 53; refine (made_n _ true v1 _ _ hv1 (by omega)).mono ?_; rintro e w2 ⟨u, rfl, hu, hb2, hn⟩; have HN := Lib.hid (hn.le (new_le HR.out (s_below (by assumption)) (Nat.le_add_right w.heap.size 2))); clear hn; rw [show sgn true (m * n) = sgn false m * sgn true n from sgn_mul false true m n] at hu; obtain ⟨d, A2, n2, c2, rfl, HD, hg⟩ := hu.form; have hS2 := on_go HR.out hS hb2; clear hS; have hS := hS2; clear hS2 hu; (first | replace hp2 := hp2.below hb2 | replace hp2 := hp2.drew.below hb2); obtain ⟨f0, f1, c0, c1⟩ := hp2.facts; clear hb2))
    go_wp2_with fail
    refine bodyPost_ret (results_cell_row rfl _ _ _ _ _ _ _ rfl (hp2.set _ _) Tryd.underlying24 rfl sizeInt) rfl ?_
    exact ⟨_, rfl, ICan.mk HD.out (hg.pair hp2 _ _), below_pair (HB.out _ hS) (by omega) _ _, HN.out.pair hp2 _ _⟩
  · obtain ⟨W, hW, hp0, hp1, hp2, hsz, hbW⟩ := enter2 w 24 (.bool true) sa (.bool false) sb
    have hS0 : ∀ w', Below (w.heap.size + 2) W w' → (fun w' => ((w'.cell? ⟨w.heap.size, 0, none⟩ = some (.bool true) ∧ w'.cell? ⟨w.heap.size, 1, none⟩ = some sa) ∧ (w'.cell? ⟨w.heap.size + 1, 0, none⟩ = some (.bool false) ∧ w'.cell? ⟨w.heap.size + 1, 1, none⟩ = some sb)) ∧ Below (w.heap.size + 2) W w') w' := fun w' h => ⟨⟨⟨(hp0.keep h (by omega)).facts.2.2.1, (hp0.keep h (by omega)).facts.2.2.2⟩, ⟨(hp1.keep h (by omega)).facts.2.2.1, (hp1.keep h (by omega)).facts.2.2.2⟩⟩, h⟩
    have hR0 : w.heap.size + 2 ≤ W.heap.size := by omega
    have hB0 : ∀ w', Below (w.heap.size + 2) W w' → Below w.heap.size w w' := fun w' h => hbW.trans (h.mono (by omega))
    obtain ⟨_, _, c00, c01⟩ := hp0.facts
    obtain ⟨_, _, c10, c11⟩ := hp1.facts
    have HS0 := Lib.hid hS0
    have HR := Lib.hid hR0
    have HB := Lib.hid hB0
    have HW := Lib.hid hW
    clear hS0 hR0 hB0 hbW hsz hW
    go_enter Tryd.func25, Tryd.ntmps25
    go_wp2_with fail
    rw [← HW.out]
    go_region_held3 (fun w' => ((w'.cell? ⟨w.heap.size, 0, none⟩ = some (.bool true) ∧ w'.cell? ⟨w.heap.size, 1, none⟩ = some sa) ∧ (w'.cell? ⟨w.heap.size + 1, 0, none⟩ = some (.bool false) ∧ w'.cell? ⟨w.heap.size + 1, 1, none⟩ = some sb)) ∧ Below (w.heap.size + 2) W w')
      (first | assumption | exact HS0.out _ (by assumption) | exact HS0.out _ (Below.drew (by assumption)) | exact HS0.out _ (Below.refl _ _).drew | exact HS0.out _ (below_pair (by assumption) (Nat.le_refl _) _ _) | exact HS0.out _ (below_pair (below_pair (by assumption) (Nat.le_refl _) _ _) (Nat.le_succ _) _ _))
      (first
        | (go_at_call 66; (try clear hS); refine (mul_v (ha.below (HB.out _ (s_below (by assumption)))).val (hb.below (HB.out _ (s_below (by assumption)))).val (by omega)).mono ?_; rintro e w1 ⟨v1, rfl, hv1, hb1⟩; have hS := on_go HR.out (s_below (by assumption)) hb1; (first | replace hp2 := hp2.below hb1 | replace hp2 := hp2.drew.below hb1); replace hv1 := hv1.bag.mag; clear hb1)
        | (go_at_call 53; refine (made_n _ true v1 _ _ hv1 (by omega)).mono ?_; rintro e w2 ⟨u, rfl, hu, hb2, hn⟩; have HN := Lib.hid (hn.le (new_le HR.out (s_below (by assumption)) (Nat.le_add_right w.heap.size 2))); clear hn; rw [show sgn true (m * n) = sgn true m * sgn false n from sgn_mul true false m n] at hu; obtain ⟨d, A2, n2, c2, rfl, HD, hg⟩ := hu.form; have hS2 := on_go HR.out hS hb2; clear hS; have hS := hS2; clear hS2 hu; (first | replace hp2 := hp2.below hb2 | replace hp2 := hp2.drew.below hb2); obtain ⟨f0, f1, c0, c1⟩ := hp2.facts; clear hb2))
    go_wp2_with fail
    refine bodyPost_ret (results_cell_row rfl _ _ _ _ _ _ _ rfl (hp2.set _ _) Tryd.underlying24 rfl sizeInt) rfl ?_
    exact ⟨_, rfl, ICan.mk HD.out (hg.pair hp2 _ _), below_pair (HB.out _ hS) (by omega) _ _, HN.out.pair hp2 _ _⟩
  · obtain ⟨W, hW, hp0, hp1, hp2, hsz, hbW⟩ := enter2 w 24 (.bool true) sa (.bool true) sb
    have hS0 : ∀ w', Below (w.heap.size + 2) W w' → (fun w' => ((w'.cell? ⟨w.heap.size, 0, none⟩ = some (.bool true) ∧ w'.cell? ⟨w.heap.size, 1, none⟩ = some sa) ∧ (w'.cell? ⟨w.heap.size + 1, 0, none⟩ = some (.bool true) ∧ w'.cell? ⟨w.heap.size + 1, 1, none⟩ = some sb)) ∧ Below (w.heap.size + 2) W w') w' := fun w' h => ⟨⟨⟨(hp0.keep h (by omega)).facts.2.2.1, (hp0.keep h (by omega)).facts.2.2.2⟩, ⟨(hp1.keep h (by omega)).facts.2.2.1, (hp1.keep h (by omega)).facts.2.2.2⟩⟩, h⟩
    have hR0 : w.heap.size + 2 ≤ W.heap.size := by omega
    have hB0 : ∀ w', Below (w.heap.size + 2) W w' → Below w.heap.size w w' := fun w' h => hbW.trans (h.mono (by omega))
    obtain ⟨_, _, c00, c01⟩ := hp0.facts
    obtain ⟨_, _, c10, c11⟩ := hp1.facts
    have HS0 := Lib.hid hS0
    have HR := Lib.hid hR0
    have HB := Lib.hid hB0
    have HW := Lib.hid hW
    clear hS0 hR0 hB0 hbW hsz hW
    go_enter Tryd.func25, Tryd.ntmps25
    go_wp2_with fail
    rw [← HW.out]
    go_region_held3 (fun w' => ((w'.cell? ⟨w.heap.size, 0, none⟩ = some (.bool true) ∧ w'.cell? ⟨w.heap.size, 1, none⟩ = some sa) ∧ (w'.cell? ⟨w.heap.size + 1, 0, none⟩ = some (.bool true) ∧ w'.cell? ⟨w.heap.size + 1, 1, none⟩ = some sb)) ∧ Below (w.heap.size + 2) W w')
      (first | assumption | exact HS0.out _ (by assumption) | exact HS0.out _ (Below.drew (by assumption)) | exact HS0.out _ (Below.refl _ _).drew | exact HS0.out _ (below_pair (by assumption) (Nat.le_refl _) _ _) | exact HS0.out _ (below_pair (below_pair (by assumption) (Nat.le_refl _) _ _) (Nat.le_succ _) _ _))
      (first
        | (go_at_call 66; (try clear hS); refine (mul_v (ha.below (HB.out _ (s_below (by assumption)))).val (hb.below (HB.out _ (s_below (by assumption)))).val (by omega)).mono ?_; rintro e w1 ⟨v1, rfl, hv1, hb1⟩; have hS := on_go HR.out (s_below (by assumption)) hb1; (first | replace hp2 := hp2.below hb1 | replace hp2 := hp2.drew.below hb1); replace hv1 := hv1.bag.mag; clear hb1)
        | (go_at_call 53; refine (made_n _ false v1 _ _ hv1 (by omega)).mono ?_; rintro e w2 ⟨u, rfl, hu, hb2, hn⟩; have HN := Lib.hid (hn.le (new_le HR.out (s_below (by assumption)) (Nat.le_add_right w.heap.size 2))); clear hn; rw [show sgn false (m * n) = sgn true m * sgn true n from sgn_mul true true m n] at hu; obtain ⟨d, A2, n2, c2, rfl, HD, hg⟩ := hu.form; have hS2 := on_go HR.out hS hb2; clear hS; have hS := hS2; clear hS2 hu; (first | replace hp2 := hp2.below hb2 | replace hp2 := hp2.drew.below hb2); obtain ⟨f0, f1, c0, c1⟩ := hp2.facts; clear hb2))
    go_wp2_with fail
    refine bodyPost_ret (results_cell_row rfl _ _ _ _ _ _ _ rfl (hp2.set _ _) Tryd.underlying24 rfl sizeInt) rfl ?_
    exact ⟨_, rfl, ICan.mk HD.out (hg.pair hp2 _ _), below_pair (HB.out _ hS) (by omega) _ _, HN.out.pair hp2 _ _⟩
theorem mul_i {w : World} {a b : Value} {K L : Nat} {x y : Int} (ha : IV w a K x) (hb : IV w b L y) (hK : K + L < 17592186044416) :
    Calls Tryd.prog 25 #[a, b] w fun e w' => ∃ u, e = .returned u ∧ ICan w' u (K + L) (x * y) ∧ Below w.heap.size w w' :=
  (mul_n ha hb hK).mono fun _ _ ⟨u, h1, h2, h3, _⟩ => ⟨u, h1, h2, h3⟩
set_option maxRecDepth 100000 in
set_option maxHeartbeats 4000000 in
theorem sub_w {w : World} {a b : Value} {K L : Nat} {x y : Int} (ha : IV w a K x) (hb : IV w b L y) (hK : K + L < 17592186044416) :
    Calls Tryd.prog 26 #[a, b] w fun e w' => ∃ u, e = .returned u ∧ ICan w' u (K + L + 1) (x - y) ∧ Below w.heap.size w w' ∧ NwI w.heap.size w' u := by
  obtain ⟨s, m, ⟨sa, rfl, ha⟩, rfl⟩ := ha
  obtain ⟨t, n, ⟨sb, rfl, hb⟩, rfl⟩ := hb
  obtain ⟨W, hW, hp0, hp1, hp2, hsz, hbW⟩ := enter2 w 24 (.bool s) sa (.bool t) sb
  have hS0 : ∀ w', Below (w.heap.size + 2) W w' → (fun w' => ((w'.cell? ⟨w.heap.size, 0, none⟩ = some (.bool s) ∧ w'.cell? ⟨w.heap.size, 1, none⟩ = some sa) ∧ (w'.cell? ⟨w.heap.size + 1, 0, none⟩ = some (.bool t) ∧ w'.cell? ⟨w.heap.size + 1, 1, none⟩ = some sb)) ∧ Below (w.heap.size + 2) W w') w' := fun w' h => ⟨⟨⟨(hp0.keep h (by omega)).facts.2.2.1, (hp0.keep h (by omega)).facts.2.2.2⟩, ⟨(hp1.keep h (by omega)).facts.2.2.1, (hp1.keep h (by omega)).facts.2.2.2⟩⟩, h⟩
  have hR0 : w.heap.size + 2 ≤ W.heap.size := by omega
  have hB0 : ∀ w', Below (w.heap.size + 2) W w' → Below w.heap.size w w' := fun w' h => hbW.trans (h.mono (by omega))
  obtain ⟨_, _, c00, c01⟩ := hp0.facts
  obtain ⟨_, _, c10, c11⟩ := hp1.facts
  have HS0 := Lib.hid hS0
  have HR := Lib.hid hR0
  have HB := Lib.hid hB0
  have HW := Lib.hid hW
  clear hS0 hR0 hB0 hbW hsz hW
  go_enter Tryd.func26, Tryd.ntmps26
  go_wp2_with fail
  rw [← HW.out]
  go_region_held3 (fun w' => ((w'.cell? ⟨w.heap.size, 0, none⟩ = some (.bool s) ∧ w'.cell? ⟨w.heap.size, 1, none⟩ = some sa) ∧ (w'.cell? ⟨w.heap.size + 1, 0, none⟩ = some (.bool t) ∧ w'.cell? ⟨w.heap.size + 1, 1, none⟩ = some sb)) ∧ Below (w.heap.size + 2) W w')
    (first | assumption | exact HS0.out _ (by assumption) | exact HS0.out _ (Below.drew (by assumption)) | exact HS0.out _ (Below.refl _ _).drew | exact HS0.out _ (below_pair (by assumption) (Nat.le_refl _) _ _) | exact HS0.out _ (below_pair (below_pair (by assumption) (Nat.le_refl _) _ _) (Nat.le_succ _) _ _))
    (first
      | (go_at_call 28; (try clear hS); refine (neg_i ⟨t, n, ⟨sb, rfl, (hb.below (HB.out _ (s_below (by assumption))))⟩, rfl⟩ (by omega)).mono ?_; rintro e w1 ⟨v1, rfl, hv1, hb1⟩; have hS := on_go HR.out (s_below (by assumption)) hb1; (first | replace hp2 := hp2.below hb1 | replace hp2 := hp2.drew.below hb1); clear hb1)
      | (go_at_call 23; (try clear hS); refine (add_n ⟨s, m, ⟨sa, rfl, (ha.below (HB.out _ (s_below (by assumption))))⟩, rfl⟩ hv1.iv (by omega)).mono ?_; rintro e w2 ⟨v2, rfl, hv2, hb2, hn⟩; have hS := on_go HR.out (s_below (by assumption)) hb2; (first | replace hp2 := hp2.below hb2 | replace hp2 := hp2.drew.below hb2); have HN := Lib.hid (hn.le (new_le HR.out (s_below (by assumption)) (Nat.le_add_right w.heap.size 2))); clear hn; obtain ⟨d, A2, n2, c2, rfl, HD, hg⟩ := hv2.form; clear hv2; obtain ⟨f0, f1, c0, c1⟩ := hp2.facts; clear hb2))
  rw [← Int.sub_eq_add_neg] at HD hg
  go_wp2_with fail
  refine bodyPost_ret (results_cell_row rfl _ _ _ _ _ _ _ rfl (hp2.set _ _) Tryd.underlying24 rfl sizeInt) rfl ?_
  exact ⟨_, rfl, ICan.mk HD.out (hg.pair hp2 _ _), below_pair (HB.out _ hS) (by omega) _ _, HN.out.pair hp2 _ _⟩
theorem sub_i {w : World} {a b : Value} {K L : Nat} {x y : Int} (ha : IV w a K x) (hb : IV w b L y) (hK : K + L < 17592186044416) :
    Calls Tryd.prog 26 #[a, b] w fun e w' => ∃ u, e = .returned u ∧ ICan w' u (K + L + 1) (x - y) ∧ Below w.heap.size w w' :=
  (sub_w ha hb hK).mono fun _ _ ⟨u, h1, h2, h3, _⟩ => ⟨u, h1, h2, h3⟩
set_option maxRecDepth 100000 in
set_option maxHeartbeats 4000000 in
theorem cmp_i {w : World} {a b : Value} {K L : Nat} {x y : Int} (ha : IV w a K x) (hb : IV w b L y) (hK : K + L < 17592186044416) :
    Calls Tryd.prog 24 #[a, b] w fun e w' => e = .returned (.int .i64 (icmp x y)) ∧ Below w.heap.size w w' := by
  obtain ⟨s, m, ⟨sa, rfl, ha⟩, rfl⟩ := ha
  obtain ⟨t, n, ⟨sb, rfl, hb⟩, rfl⟩ := hb
  obtain ⟨G, hG⟩ : ∃ G, G = icmp (sgn s m) (sgn t n) := ⟨_, rfl⟩
  rw [← hG]
  have HG := Lib.hid hG
  clear hG
  obtain ⟨W, hW, hp0, hp1, hsz, hbW⟩ := enter2r w 24 (.bool s) sa (.bool t) sb
  have hS0 : ∀ w', Below (w.heap.size + 2) W w' → (fun w' => ((w'.cell? ⟨w.heap.size, 0, none⟩ = some (.bool s) ∧ w'.cell? ⟨w.heap.size, 1, none⟩ = some sa) ∧ (w'.cell? ⟨w.heap.size + 1, 0, none⟩ = some (.bool t) ∧ w'.cell? ⟨w.heap.size + 1, 1, none⟩ = some sb)) ∧ Below (w.heap.size + 2) W w') w' := fun w' h => ⟨⟨⟨(hp0.keep h (by omega)).facts.2.2.1, (hp0.keep h (by omega)).facts.2.2.2⟩, ⟨(hp1.keep h (by omega)).facts.2.2.1, (hp1.keep h (by omega)).facts.2.2.2⟩⟩, h⟩
  have hR0 : w.heap.size + 2 ≤ W.heap.size := by omega
  have hB0 : ∀ w', Below (w.heap.size + 2) W w' → Below w.heap.size w w' := fun w' h => hbW.trans (h.mono (by omega))
  obtain ⟨_, _, c00, c01⟩ := hp0.facts
  obtain ⟨_, _, c10, c11⟩ := hp1.facts
  have HS0 := Lib.hid hS0
  have HR := Lib.hid hR0
  have HB := Lib.hid hB0
  have HW := Lib.hid hW
  clear hS0 hR0 hB0 hbW hsz hW
  go_enter Tryd.func24, Tryd.ntmps24
  go_wp2_with fail
  rw [← HW.out]
  go_region_held3 (fun w' => ((w'.cell? ⟨w.heap.size, 0, none⟩ = some (.bool s) ∧ w'.cell? ⟨w.heap.size, 1, none⟩ = some sa) ∧ (w'.cell? ⟨w.heap.size + 1, 0, none⟩ = some (.bool t) ∧ w'.cell? ⟨w.heap.size + 1, 1, none⟩ = some sb)) ∧ Below (w.heap.size + 2) W w')
    (first | assumption | exact HS0.out _ (by assumption) | exact HS0.out _ (Below.drew (by assumption)) | exact HS0.out _ (Below.refl _ _).drew | exact HS0.out _ (below_pair (by assumption) (Nat.le_refl _) _ _) | exact HS0.out _ (below_pair (below_pair (by assumption) (Nat.le_refl _) _ _) (Nat.le_succ _) _ _))
    (first
      | (go_at_call_of 27 (Value.agg #[.bool s, sa]); (try clear hS); refine (sign_i ⟨s, m, ⟨sa, rfl, (ha.below (HB.out _ (s_below (by assumption))))⟩, rfl⟩ (by omega)).mono ?_; rintro e w1 ⟨rfl, hb1⟩; have hS := on_go HR.out (s_below (by assumption)) hb1; clear hb1)
      | (go_at_call 27; (try clear hS); refine (sign_i ⟨t, n, ⟨sb, rfl, (hb.below (HB.out _ (s_below (by assumption))))⟩, rfl⟩ (by omega)).mono ?_; rintro e w2 ⟨rfl, hb2⟩; have hS := on_go HR.out (s_below (by assumption)) hb2; clear hb2))
  obtain ⟨p, hp⟩ : ∃ p, isgn (sgn s m) = p := ⟨_, rfl⟩
  obtain ⟨q, hq⟩ : ∃ q, isgn (sgn t n) = q := ⟨_, rfl⟩
  rw [hp, hq]
  have hbw := HB.out _ hS
  obtain ⟨⟨⟨c00, c01⟩, ⟨c10, c11⟩⟩, _⟩ := HS0.out _ hS
  rcases isgn_cases (sgn s m) with ⟨h1, e1⟩ | ⟨h1, e1⟩ | ⟨h1, e1⟩
  · rw [e1] at hp
    subst hp
    have H1 := Lib.hid h1
    clear h1 e1
    rcases isgn_cases (sgn t n) with ⟨h2, e2⟩ | ⟨h2, e2⟩ | ⟨h2, e2⟩
    · rw [e2] at hq
      subst hq
      have H2 := Lib.hid h2
      clear h2 e2
      go_wp2_with fail
      refine (cmp_v (hb.below hbw).val (ha.below hbw).val (by omega) (by omega)).mono ?_
      rintro e w3 ⟨rfl, hb3⟩
      replace hbw := below_on hbw hb3
      go_wp2_with fail
      go_ret
      exact ⟨by have h1 := sgn_lt H1.out; have h2 := sgn_lt H2.out; subst h1; subst h2; rw [HG.out, icmp_neg]; rfl, hbw⟩
    · rw [e2] at hq
      subst hq
      have H2 := Lib.hid h2
      clear h2 e2
      go_wp2_with fail
      go_ret
      exact ⟨by rw [HG.out, icmp_lt (by have := H1.out; have := H2.out; omega)]; rfl, hbw⟩
    · rw [e2] at hq
      subst hq
      have H2 := Lib.hid h2
      clear h2 e2
      go_wp2_with fail
      go_ret
      exact ⟨by rw [HG.out, icmp_lt (by have := H1.out; have := H2.out; omega)]; rfl, hbw⟩
  · rw [e1] at hp
    subst hp
    have H1 := Lib.hid h1
    clear h1 e1
    rcases isgn_cases (sgn t n) with ⟨h2, e2⟩ | ⟨h2, e2⟩ | ⟨h2, e2⟩
    · rw [e2] at hq
      subst hq
      have H2 := Lib.hid h2
      clear h2 e2
      go_wp2_with fail
      go_ret
      exact ⟨by rw [HG.out, icmp_gt (by have := H1.out; have := H2.out; omega)]; rfl, hbw⟩
    · rw [e2] at hq
      subst hq
      have H2 := Lib.hid h2
      clear h2 e2
      go_wp2_with fail
      refine (cmp_v (ha.below hbw).val (hb.below hbw).val (by omega) (by omega)).mono ?_
      rintro e w3 ⟨rfl, hb3⟩
      replace hbw := below_on hbw hb3
      go_wp2_with fail
      go_ret
      exact ⟨by have h1 := sgn_eq_zero.1 H1.out; have h2 := sgn_eq_zero.1 H2.out; subst h1; subst h2; rw [HG.out, sgn_zero, sgn_zero, icmp_eq]; rfl, hbw⟩
    · rw [e2] at hq
      subst hq
      have H2 := Lib.hid h2
      clear h2 e2
      go_wp2_with fail
      go_ret
      exact ⟨by rw [HG.out, icmp_lt (by have := H1.out; have := H2.out; omega)]; rfl, hbw⟩
  · rw [e1] at hp
    subst hp
    have H1 := Lib.hid h1
    clear h1 e1
    rcases isgn_cases (sgn t n) with ⟨h2, e2⟩ | ⟨h2, e2⟩ | ⟨h2, e2⟩
    · rw [e2] at hq
      subst hq
      have H2 := Lib.hid h2
      clear h2 e2
      go_wp2_with fail
      go_ret
      exact ⟨by rw [HG.out, icmp_gt (by have := H1.out; have := H2.out; omega)]; rfl, hbw⟩
    · rw [e2] at hq
      subst hq
      have H2 := Lib.hid h2
      clear h2 e2
      go_wp2_with fail
      go_ret
      exact ⟨by rw [HG.out, icmp_gt (by have := H1.out; have := H2.out; omega)]; rfl, hbw⟩
    · rw [e2] at hq
      subst hq
      have H2 := Lib.hid h2
      clear h2 e2
      go_wp2_with fail
      refine (cmp_v (ha.below hbw).val (hb.below hbw).val (by omega) (by omega)).mono ?_
      rintro e w3 ⟨rfl, hb3⟩
      replace hbw := below_on hbw hb3
      go_wp2_with fail
      go_ret
      exact ⟨by have h1 := sgn_gt H1.out; have h2 := sgn_gt H2.out; subst h1; subst h2; rw [HG.out, icmp_pos]; rfl, hbw⟩
end Go.Proofs.YtiidghfkdjefgaaDoor

/-
  The walk of riddlelaw02.ZintDivisors: it answers true. (Under way.)
-/
import Derived.Test.YtiidghfkdjefgaaDoorZAwake
import Derived.Test.YtiidghfkdjefgaaDoorZOwn
import Derived.Deep.RegionHeld3
import Derived.Deep.Cut
namespace Go.Proofs.YtiidghfkdjefgaaDoor
open Go.RowKit

theorem outz_ne {w : World} {base g n : Nat} {v : Value} {rs : List (Bool × Nat × Nat)} {l : List Nat} (h : OutZ w base v rs) (hl : 0 < rs.length) (hx : Lnt w g n l) : v.ownBlock ≠ some g := by
  intro e
  have h1 := rcs_get rs 0 hl
  obtain ⟨b, o, e2, hc⟩ := hx.cells (by omega)
  injection e2 with e2
  injection e2 with e2 e3 _
  subst e2; subst e3
  rcases h.own.2 with ⟨rfl, h0⟩ | ⟨G, cap, cur, rfl, _⟩
  · rw [h0] at hl; exact absurd hl (by omega)
  · have e4 : G = g := by simpa [Value.ownBlock] using e
    subst e4
    have h2 := h.own.cellAt 0 (by omega)
    rw [hc 0 (by omega)] at h2
    have h3 := h1.1
    rw [Nat.zero_mul] at h3
    rw [h3] at h2
    cases h2
theorem lents_snoc {w w' : World} {v v' : Value} {base K g m : Nat} {s : Bool} {rs : List (Bool × Nat × Nat)} {raws : List (Bool × List Nat)} (h : Lents w v base rs raws K) (hg : w.grownBy w' v.ownBlock) (ho : OutZ w base v rs) (ho' : OutZ w' base v' (rs ++ [(s, g, m)]))
    (hv0 : rs = [] → v = .slice none 0 0) (hr : (s, m, g) = ((raws.getD rs.length (false, [])).1, (raws.getD rs.length (false, [])).2.length, g)) (hm : m ≤ K) (hge : base ≤ g) (hl : Lnt w g m (raws.getD rs.length (false, [])).2) : Lents w' v' base (rs ++ [(s, g, m)]) raws K := by
  intro i hi
  rw [List.length_append] at hi
  have hi' : i < rs.length + 1 := hi
  have key : ∀ g' n' l', Lnt w g' n' l' → Lnt w' g' n' l' := fun g' n' l' hl' => by
    rcases Nat.eq_zero_or_pos rs.length with h0 | h0
    · have hrs : rs = [] := List.eq_nil_of_length_eq_zero h0
      rw [hv0 hrs] at hg
      exact lnt_kept hl' hg (by simp [Value.ownBlock])
    · exact lnt_kept hl' hg (outz_ne ho h0 hl')
  rcases Nat.lt_or_ge i rs.length with h1 | h1
  · have e : (rs ++ [(s, g, m)]).getD i (false, 0, 0) = rs.getD i (false, 0, 0) := by simp [List.getD, List.getElem?_append_left h1]
    rw [e]
    obtain ⟨a1, a2, a3, a4, a5, a6⟩ := h i h1
    have hk := key _ _ _ a6
    exact ⟨a1, a2, a3, outz_ne ho' (by simp) hk, a5, hk⟩
  · obtain rfl : i = rs.length := by omega
    have e : (rs ++ [(s, g, m)]).getD rs.length (false, 0, 0) = (s, g, m) := by simp [List.getD]
    rw [e]
    injection hr with hr1 hr2
    injection hr2 with hr2 _
    have hk := key _ _ _ hl
    exact ⟨hr1, hr2.symm, hm, outz_ne ho' (by simp) hk, hge, hk⟩
theorem outz_arr {w : World} {base n K : Nat} {v : Value} {rs : List (Bool × Nat × Nat)} {raws : List (Bool × List Nat)} (h : OutZ w base v rs) (hl : Lents w v base rs raws K) (hr : rs.length = n) (hw : raws.length = n) :
    ∃ A' c', v = .slice A' n c' ∧ ArrI w A' n K (vals raws) ∧ ∀ i, i < n → ∃ G g m, A' = some ⟨G, 0, none⟩ ∧ w.cell? ⟨G, i * 2, none⟩ = some (.bool (raws.getD i (false, [])).1) ∧ w.cell? ⟨G, i * 2 + 1, none⟩ = some (.slice (some ⟨g, 0, none⟩) m (m + 2)) ∧ (raws.getD i (false, [])).2.length = m ∧ m ≤ K ∧ Lnt w g m (raws.getD i (false, [])).2 := by
  subst hr
  have key : ∀ G cap, v = .slice (some ⟨G, 0, none⟩) rs.length cap → ∀ i, i < rs.length → w.cell? ⟨G, i * 2, none⟩ = some (.bool (raws.getD i (false, [])).1) ∧ w.cell? ⟨G, i * 2 + 1, none⟩ = some (.slice (some ⟨(rs.getD i (false, 0, 0)).2.1, 0, none⟩) (rs.getD i (false, 0, 0)).2.2 ((rs.getD i (false, 0, 0)).2.2 + 2)) := fun G cap e i hi => by
    obtain ⟨h1, h2⟩ := rcs_get rs i hi
    obtain ⟨a1, _⟩ := hl i hi
    have ho := h.own
    subst e
    refine ⟨?_, ?_⟩
    · rw [ho.cellAt (i * 2) (by omega), h1, a1]
    · rw [ho.cellAt (i * 2 + 1) (by omega), h2]
  rcases h.own.2 with ⟨hv, h0⟩ | ⟨G, cap, cur, hv, _⟩
  · have h00 : rs.length = 0 := h0
    refine ⟨none, 0, by rw [h00]; exact hv, ⟨by simp [vals, hw], fun hn => by omega⟩, fun i hi => by omega⟩
  · refine ⟨_, cap, hv, ⟨by simp [vals, hw], fun _ => ⟨G, 0, rfl, fun i hi => ?_⟩⟩, fun i hi => ?_⟩
    · obtain ⟨k1, k2⟩ := key G cap hv i hi
      obtain ⟨a1, a2, a3, a4, a5, a6⟩ := hl i hi
      exact ⟨_, _, _, _, by rw [Nat.zero_add]; exact k1, by rw [Nat.zero_add]; exact k2, by rw [vals_get _ _ (by omega)]; exact lnt_iv a6 a2 a3⟩
    · obtain ⟨k1, k2⟩ := key G cap hv i hi
      obtain ⟨a1, a2, a3, a4, a5, a6⟩ := hl i hi
      exact ⟨G, _, _, rfl, k1, k2, a2, a3, a6⟩
theorem bound_nk {n K : Nat} (h : n + K ≤ 1048576) : 2 + n * (K + 3) + K ≤ 549755813888 := by
  have h1 : 4 * (n * K) ≤ (n + K) * (n + K) := by
    rcases Nat.le_total n K with h2 | h2
    · obtain ⟨d, rfl⟩ := Nat.exists_eq_add_of_le h2
      have := Nat.zero_le (d * d)
      have e1 : 4 * (n * (n + d)) + d * d = (n + (n + d)) * (n + (n + d)) := by
        simp only [Nat.mul_add, Nat.add_mul, Nat.mul_comm d n]; omega
      omega
    · obtain ⟨d, rfl⟩ := Nat.exists_eq_add_of_le h2
      have e1 : 4 * ((K + d) * K) + d * d = (K + d + K) * (K + d + K) := by
        simp only [Nat.mul_add, Nat.add_mul, Nat.mul_comm d K]; omega
      omega
  have h2 : (n + K) * (n + K) ≤ 1048576 * 1048576 := Nat.mul_le_mul h h
  rw [Nat.mul_add]
  omega
theorem cells_one {w : World} {v0 v1 : Value} {t : TypeId} : (w.alloc (.cells #[v0, v1] t)).cell? ⟨w.heap.size, 0, none⟩ = some v0 ∧ (w.alloc (.cells #[v0, v1] t)).cell? ⟨w.heap.size, 1, none⟩ = some v1 :=
  (Pair.new w t v0 v1).facts.2.2
set_option maxRecDepth 100000 in
set_option maxHeartbeats 4000000 in
theorem walkZintDivisors (w : World) (A : Option Addr) (n c K : Nat) (raws : List (Bool × List Nat)) (harr : ArrR w A n K raws) (hb : n + K ≤ 1048576) :
    Calls Tryd.prog 9 #[.slice A n c] w fun e w' => e = .returned (.bool true) ∧ Below w.heap.size w w' := by
  obtain ⟨i0, hi, iz0, iz1, iz2⟩ := info_parts info_int
  go_enter Tryd.func9, Tryd.ntmps9
  go_wp2_with fail
  refine (awake_l _).mono ?_
  rintro e w1 ⟨rfl, hb1⟩
  go_wp2_with fail
  go_loopg [4, 5] n (fun gk v4 v5 wr => ∃ (k : Nat) (rs : List (Bool × Nat × Nat)), gk + k = n ∧ v5 = .int .i64 (k : Nat) ∧ rs.length = k ∧ (rs = [] → v4 = .slice none 0 0) ∧ OutZ wr w.heap.size v4 rs ∧ Lents wr v4 w.heap.size rs raws K ∧ Below w.heap.size w wr)
  case atStart => exact ⟨0, [], rfl, rfl, rfl, fun _ => rfl, OutZ.nil _ _, fun i hi => absurd hi (by simp), hb1⟩
  case round =>
    clear hb1
    obtain ⟨k, rs, hk, rfl, hrl, hv0, hown, hlents, hbw⟩ := hrel
    have harr2 := harr.below hbw
    by_cases hkn : k < n
    · obtain ⟨b, o, rfl, hc⟩ := harr2.2 (by omega)
      obtain ⟨B2, m2, l2, e0, e1, hraw⟩ := hc k hkn
      have HC := Lib.hid hc
      have HV0 := Lib.hid hv0
      have HRL := Lib.hid hrl
      clear hc hv0 hrl
      go_wp2_with fail
      refine (lent_l hraw (by omega)).mono ?_
      rintro e w2 ⟨g, m, rfl, ⟨hlen, hmK, hge⟩, hs, hb2⟩
      have hown2 := hown.below hb2
      have hlents2 := hlents.below hb2
      have hz2 := hbw.size
      replace hbw := below_on hbw hb2
      have hz3 := hbw.size
      have HS := Lib.hid hs
      clear hown hlents hb2 e0 e1 hraw hs harr2
      have HLEN := Lib.hid hlen
      clear hlen
      go_wp2_with (at_builtin; refine wpList_append_lent _ rfl (.tmp 17) (.tmp 23) 44 rfl w.heap.size i0 Tryd.underlying44 hi iz0 iz1 iz2 _ rs rfl (hown2.below (below_alloc1 _ _)) _ 1 ((raws.getD k (false, [])).1, g, m) rfl cells_one.1 cells_one.2 (by rw [HRL.out]; omega) (by simp; omega) ?_; intro v3 w3 ho3 hg3 hne3)
      go_roundg (gk - 1)
      case measure => omega
      case rel =>
        have hal := below_alloc1 w2 (.cells #[.bool (raws.getD k (false, [])).1, .slice (some ⟨g, 0, none⟩) m (m + 2)] 24)
        have hown3 := hown2.below hal
        have hl2 : Lnt w2 g m (raws.getD k (false, [])).2 := HS.out
        refine ⟨k + 1, rs ++ [((raws.getD k (false, [])).1, g, m)], by omega, by go_num, by rw [List.length_append, HRL.out]; rfl, fun h => absurd h (by simp), ho3, ?_, ?_⟩
        · refine lents_snoc (hlents2.below hal) hg3 hown3 ho3 HV0.out ?_ hmK (by omega) ?_
          · rw [HRL.out, HLEN.out]
          · rw [HRL.out]; exact Sl.below hl2 hal
        · exact (below_on hbw hal).grown hg3 (by have := hal.size; omega) (fun q hq => (hown3.own.lt q hq).1)
    · obtain rfl : k = n := by omega
      have hraws := harr.1
      obtain ⟨A', c', rfl, hown2, hlent2⟩ := outz_arr hown hlents hrl hraws
      have hnK : k * K ≤ 1048576 * 1048576 := Nat.mul_le_mul (by omega) (by omega)
      clear hown hlents hv0 hrl
      go_wp2_with fail
      refine (gcd_i hown2 (by omega) (by omega)).mono ?_
      rintro e w2 ⟨vg, rfl, hg, hb2⟩
      obtain ⟨dg, Ag, mg, lg, rfl, HDg, hgg⟩ := hg.form
      have hown3 := hown2.below hb2
      replace hbw := below_on hbw hb2
      go_upto_region 8 with (fail)
      obtain ⟨W3, hW3, pg, hb3⟩ := var_new w2 dg Ag mg lg
      rw [← hW3]
      obtain ⟨bg, ebg⟩ : ∃ b, b = w2.heap.size := ⟨_, rfl⟩
      rw [← ebg] at pg ⊢
      have hb23 := below_on hb2 hb3
      replace hown3 := hown3.below hb3
      replace hgg := hgg.below hb3
      replace hbw := below_on hbw hb3
      clear hW3 ebg hb3 hb2 hg
      go_wp2_with fail
      refine (lcm_i hown3 (by omega) (by omega)).mono ?_
      rintro e w4 ⟨vm, rfl, hm, hb4⟩
      obtain ⟨dm, Am, mm, lm, rfl, HDm, hgm⟩ := hm.form
      replace pg := pg.below hb4
      replace hgg := hgg.below hb4
      replace hbw := below_on hbw hb4
      have hb24 := below_on hb23 hb4
      clear hm hb4 hown3
      go_upto_region 9 with (fail)
      obtain ⟨W4, hW4, pm, hb5⟩ := var_new w4 dm Am mm lm
      rw [← hW4]
      obtain ⟨bm, ebm⟩ : ∃ b, b = w4.heap.size := ⟨_, rfl⟩
      rw [← ebm] at pm ⊢
      replace pg := pg.below hb5
      replace hgg := hgg.below hb5
      replace hgm := hgm.below hb5
      replace hbw := below_on hbw hb5
      have hbr := below_on hb24 hb5
      have hvg := ICan.mk HDg.out hgg
      have hvm := ICan.mk HDm.out hgm
      clear hW4 ebm hb5 hb24 hb23 hgg hgm HDg HDm hown2
      go_wp2_with fail
      go_loopg [8] k (fun gk v8 wq => ∃ j : Nat, gk + j = k ∧ v8 = .int .i64 (j : Nat) ∧ Below W4.heap.size W4 wq)
      case atStart => exact ⟨0, rfl, rfl, Below.refl _ _⟩
      case round =>
        obtain ⟨j, hj, rfl, hS⟩ := hrel
        by_cases hjk : j < k
        · obtain ⟨G, g2, m2, rfl, q0, q1, hlen2, hm2, hlnt⟩ := hlent2 j hjk
          obtain ⟨b, o, rfl, hc⟩ := harr.2 (by omega)
          obtain ⟨B3, m3, l3, r0, r1, hraw⟩ := hc j hjk
          have hS0 : ∀ w', Below W4.heap.size W4 w' → (fun w' => ((w'.cell? ⟨G, j * 2, none⟩ = some (.bool (raws.getD j (false, [])).1) ∧ w'.cell? ⟨G, j * 2 + 1, none⟩ = some (.slice (some ⟨g2, 0, none⟩) m2 (m2 + 2))) ∧ (w'.cell? ⟨b, o + j * 2, none⟩ = some (.bool (raws.getD j (false, [])).1) ∧ w'.cell? ⟨b, o + j * 2 + 1, none⟩ = some (.slice B3 m3 l3))) ∧ Below W4.heap.size W4 w') w' := fun w' h => ⟨⟨⟨keep_cell q0 (below_on hbr h), keep_cell q1 (below_on hbr h)⟩, ⟨keep_cell r0 (below_on hbw h), keep_cell r1 (below_on hbw h)⟩⟩, h⟩
          have HS0 := Lib.hid hS0
          have HC := Lib.hid hc
          have hj0 : (0 : Int) ≤ j := by omega
          have hjk' : (j : Int) < k := by omega
          have HLENT := Lib.hid hlent2
          have HARR := Lib.hid harr
          have HST := Lib.hid (fun (w' : World) (h : Below W4.heap.size W4 w') => stays_l (K := K) (Lnt.below hlnt (below_on hbr h)) (hraw.below (below_on hbw h)) hlen2 (by omega) hm2)
          clear hraw hlnt hlen2 harr2 hraws hnK
          have HVG := Lib.hid hvg
          have HVM := Lib.hid hvm
          have HBR := Lib.hid hbr
          clear hS0 hc q0 q1 r0 r1 hlent2 harr hvg hvm
          go_upto_region 12 with (fail)
          go_region_held3 (fun w' => ((w'.cell? ⟨G, j * 2, none⟩ = some (.bool (raws.getD j (false, [])).1) ∧ w'.cell? ⟨G, j * 2 + 1, none⟩ = some (.slice (some ⟨g2, 0, none⟩) m2 (m2 + 2))) ∧ (w'.cell? ⟨b, o + j * 2, none⟩ = some (.bool (raws.getD j (false, [])).1) ∧ w'.cell? ⟨b, o + j * 2 + 1, none⟩ = some (.slice B3 m3 l3))) ∧ Below W4.heap.size W4 w')
            (first | exact HS0.out _ (by with_reducible assumption) | exact HS0.out _ (Below.drew (by with_reducible assumption)))
            (first
              | (go_at_call 47; refine (HST.out _ (s_below (by with_reducible assumption))).mono ?_; rintro e wn ⟨rfl, hb⟩; have hS2 := below_on (s_below (by with_reducible assumption)) hb; clear hS; have hS := hS2; clear hS2 hb))
          go_wp2_with fail
          go_roundg (gk - 1)
          case measure => omega
          case rel => exact ⟨j + 1, by omega, by go_num, hS⟩
        · obtain rfl : j = k := by omega
          have hS0 : ∀ w', Below W4.heap.size W4 w' → (fun w' => ((w'.cell? ⟨bg, 0, none⟩ = some (.bool dg) ∧ w'.cell? ⟨bg, 1, none⟩ = some (.slice Ag mg lg)) ∧ (w'.cell? ⟨bm, 0, none⟩ = some (.bool dm) ∧ w'.cell? ⟨bm, 1, none⟩ = some (.slice Am mm lm))) ∧ Below W4.heap.size W4 w') w' := fun w' h => ⟨⟨⟨(pg.below h).facts.2.2.1, (pg.below h).facts.2.2.2⟩, ⟨(pm.below h).facts.2.2.1, (pm.below h).facts.2.2.2⟩⟩, h⟩
          have HS0 := Lib.hid hS0
          have harrI := harr.arr
          have hbd := bound_nk hb
          clear hS0
          have HLENT := Lib.hid hlent2
          have HARR := Lib.hid harr
          clear hlent2 harr
          go_upto_region 15 with (fail)
          go_region_held3 (fun w' => ((w'.cell? ⟨bg, 0, none⟩ = some (.bool dg) ∧ w'.cell? ⟨bg, 1, none⟩ = some (.slice Ag mg lg)) ∧ (w'.cell? ⟨bm, 0, none⟩ = some (.bool dm) ∧ w'.cell? ⟨bm, 1, none⟩ = some (.slice Am mm lm))) ∧ Below W4.heap.size W4 w')
            (first | exact HS0.out _ (by with_reducible assumption) | exact HS0.out _ (Below.drew (by with_reducible assumption)))
            (first
              | (go_at_call 15; have _q := mk2; clear _q; refine (is_l (hvm.below (s_below (by assumption))) ht2.iv (by omega) rfl).mono ?_; rintro e wn ⟨rfl, hb⟩; have hS2 := below_on (s_below (by with_reducible assumption)) hb; clear hS; have hS := hS2; clear hS2 hb)
              | (go_at_call 49; refine (lcm_r (harrI.below (below_on hbw (s_below (by assumption)))) (by omega) (by omega)).mono ?_; rintro e wn ⟨t2, rfl, ht2, hb⟩; have hS2 := below_on (s_below (by assumption)) hb; clear hS; have hS := hS2; clear hS2 hb; have mk2 : True := trivial)
              | (go_at_call 15; refine (is_l (hvg.below (s_below (by assumption))) ht1.iv (by omega) rfl).mono ?_; rintro e wn ⟨rfl, hb⟩; have hS2 := below_on (s_below (by with_reducible assumption)) hb; clear hS; have hS := hS2; clear hS2 hb)
              | (go_at_call 48; refine (gcd_r (harrI.below (below_on hbw (s_below (by assumption)))) (by omega) (by omega)).mono ?_; rintro e wn ⟨t1, rfl, ht1, hb⟩; have hS2 := below_on (s_below (by assumption)) hb; clear hS; have hS := hS2; clear hS2 hb))
          all_goals
            go_wp2_with fail
            go_ret
            exact ⟨rfl, below_on hbw hS⟩
end Go.Proofs.YtiidghfkdjefgaaDoor

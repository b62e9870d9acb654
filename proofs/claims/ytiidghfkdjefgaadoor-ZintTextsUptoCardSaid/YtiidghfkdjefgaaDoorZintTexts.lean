/-
  The walk of riddlelaw02.ZintTexts: it answers true.
-/
import Derived.Test.YtiidghfkdjefgaaDoorZAwake
import Derived.Deep.RegionHeld3
import Derived.Test.YtiidghfkdjefgaaDoorZRParse
namespace Go.Proofs.YtiidghfkdjefgaaDoor
open Go.RowKit

theorem IV.lt {w : World} {v : Value} {K : Nat} {z : Int} (h : IV w v K z) : z.natAbs < 4294967296 ^ K := by
  obtain ⟨s, x, ⟨sl, _, hm⟩, rfl⟩ := h
  rw [natAbs_sgn]
  exact hm.val.lt
theorem ztxt_size {K : Nat} {z : Int} (h : z.natAbs < 4294967296 ^ K) : (⟨(ztxt z).toArray⟩ : ByteArray).size ≤ 32 * K + 2 := by
  have h1 := txt_len_bits h
  have h2 : (ztxt z).length ≤ (N.txt z.natAbs).length + 1 := by
    unfold ztxt
    split
    · simp
    · omega
  show (ztxt z).toArray.size ≤ _
  rw [List.size_toArray]
  omega

set_option maxRecDepth 100000 in
set_option maxHeartbeats 40000000 in
theorem walkZintTexts (w : World) (a : Value) (S : ByteArray) (Ka : Nat) (na : Int) (h_a : IV w a Ka na) (hKa : Ka ≤ 1048576) (hS : S.size ≤ 1048576) :
    Calls Tryd.prog 4 #[.string S, a] w fun e w' => e = .returned (.bool true) ∧ Below w.heap.size w w' := by
  obtain ⟨sa, xa, ⟨la, rfl, hma⟩, hza⟩ := h_a
  obtain ⟨Aa, ma, ka, rfl⟩ := hma.slice
  have h_a : IV w (.agg #[.bool sa, .slice Aa ma ka]) Ka na := ⟨sa, xa, ⟨_, rfl, hma⟩, hza⟩
  have hw0 : Below w.heap.size w w := Below.refl _ _
  obtain ⟨V0, hV0, p_a, hb0⟩ := var_new w sa Aa ma ka
  obtain ⟨b_a, hb_a⟩ : ∃ b, b = w.heap.size := ⟨_, rfl⟩
  rw [← hb_a] at p_a
  replace hw0 := below_on hw0 hb0
  replace h_a := h_a.below hw0
  clear hma hza
  have HB_a := Lib.hid hb_a
  have HV0 := Lib.hid hV0
  clear hb_a hV0 hb0
  have hw := hw0
  clear hw0
  go_enter Tryd.func4, Tryd.ntmps4
  go_wp2_with fail
  try simp only [World.size_alloc]
  rw [← HV0.out]
  try rw [← HB_a.out]
  clear HB_a
  clear HV0
  have hS0 : ∀ w', Below V0.heap.size V0 w' → (fun w' => ((w'.cell? ⟨b_a, 0, none⟩ = some (.bool sa) ∧ w'.cell? ⟨b_a, 1, none⟩ = some (.slice Aa ma ka))) ∧ Below V0.heap.size V0 w') w' := fun w' h => ⟨⟨(p_a.below h).facts.2.2.1, (p_a.below h).facts.2.2.2⟩, h⟩
  have HS0 := Lib.hid hS0
  clear hS0
  have hS : Below V0.heap.size V0 V0 := Below.refl _ _
  have hlt := h_a.lt
  have hts := ztxt_size hlt
  obtain ⟨D, hD⟩ : ∃ D : ByteArray, D = ⟨(ztxt na).toArray⟩ := ⟨_, rfl⟩
  have hDl : D.data.toList = ztxt na := by rw [hD]
  rw [← hD] at hts
  have hDok := ztxt_ok na
  rw [← hDl] at hDok
  have ED := Lib.hid hD
  have HDK := Lib.hid hDok
  clear hD hDl hDok hlt
  obtain ⟨κ, eκ⟩ : ∃ q, q = (N.ofN na.natAbs).length := ⟨_, rfl⟩
  have Eκ := Lib.hid eκ
  clear eκ
  refine (awake_l _).mono ?_
  rintro e u1 ⟨rfl, hbk⟩
  replace hS := below_on hS hbk
  clear hbk
  obtain ⟨⟨c_a0, c_a1⟩, _⟩ := HS0.out _ hS
  go_wp2_with fail
  by_cases hz : zok S.data.toList
  · have HZ := Lib.hid hz
    clear hz
    refine (parse_i _ S (by omega) HZ.out).mono ?_
    rintro e u2 ⟨vv, rfl, hv, hbk⟩
    obtain ⟨dn, An, mn, kn, rfl, HD_n, hg_n⟩ := hv.form
    clear hv
    replace hS := below_on hS hbk
    clear c_a0 c_a1
    clear hbk
    go_upto_region 3 with (fail)
    obtain ⟨W3, hWk, p_n, hbv⟩ := var_new u2 dn An mn kn
    rw [← hWk]
    obtain ⟨b_n, hbe⟩ : ∃ b, b = u2.heap.size := ⟨_, rfl⟩
    rw [← hbe] at p_n ⊢
    replace hS := below_on hS hbv
    replace p_a := p_a.below hS
    replace h_a := h_a.below hS
    have h_n := ICan.mk HD_n.out (hg_n.below hbv)
    replace hw := below_on hw hS
    clear hWk hbe hS HS0 hg_n HD_n hbv
    have hS0 : ∀ w', Below W3.heap.size W3 w' → (fun w' => ((w'.cell? ⟨b_a, 0, none⟩ = some (.bool sa) ∧ w'.cell? ⟨b_a, 1, none⟩ = some (.slice Aa ma ka)) ∧ (w'.cell? ⟨b_n, 0, none⟩ = some (.bool dn) ∧ w'.cell? ⟨b_n, 1, none⟩ = some (.slice An mn kn))) ∧ Below W3.heap.size W3 w') w' := fun w' h => ⟨⟨⟨(p_a.below h).facts.2.2.1, (p_a.below h).facts.2.2.2⟩, ⟨(p_n.below h).facts.2.2.1, (p_n.below h).facts.2.2.2⟩⟩, h⟩
    have HS0 := Lib.hid hS0
    clear hS0
    have hS : Below W3.heap.size W3 W3 := Below.refl _ _
    obtain ⟨⟨⟨c_a0, c_a1⟩, ⟨c_n0, c_n1⟩⟩, _⟩ := HS0.out _ hS
    go_wp2_with fail
    refine (parse_r _ S (by omega) HZ.out).mono ?_
    rintro e u4 ⟨vv, rfl, hv, hbk⟩
    obtain ⟨dwant, Awant, mwant, kwant, rfl, HD_want, hg_want⟩ := hv.form
    clear hv
    replace hS := below_on hS hbk
    clear c_a0 c_a1 c_n0 c_n1
    clear hbk
    go_upto_region 4 with (fail)
    obtain ⟨W5, hWk, p_want, hbv⟩ := var_new u4 dwant Awant mwant kwant
    rw [← hWk]
    obtain ⟨b_want, hbe⟩ : ∃ b, b = u4.heap.size := ⟨_, rfl⟩
    rw [← hbe] at p_want ⊢
    replace hS := below_on hS hbv
    replace p_a := p_a.below hS
    replace h_a := h_a.below hS
    replace p_n := p_n.below hS
    replace h_n := h_n.below hS
    have h_want := ICan.mk HD_want.out (hg_want.below hbv)
    replace hw := below_on hw hS
    clear hWk hbe hS HS0 hg_want HD_want hbv
    have hS0 : ∀ w', Below W5.heap.size W5 w' → (fun w' => ((w'.cell? ⟨b_a, 0, none⟩ = some (.bool sa) ∧ w'.cell? ⟨b_a, 1, none⟩ = some (.slice Aa ma ka)) ∧ (w'.cell? ⟨b_n, 0, none⟩ = some (.bool dn) ∧ w'.cell? ⟨b_n, 1, none⟩ = some (.slice An mn kn)) ∧ (w'.cell? ⟨b_want, 0, none⟩ = some (.bool dwant) ∧ w'.cell? ⟨b_want, 1, none⟩ = some (.slice Awant mwant kwant))) ∧ Below W5.heap.size W5 w') w' := fun w' h => ⟨⟨⟨(p_a.below h).facts.2.2.1, (p_a.below h).facts.2.2.2⟩, ⟨(p_n.below h).facts.2.2.1, (p_n.below h).facts.2.2.2⟩, ⟨(p_want.below h).facts.2.2.1, (p_want.below h).facts.2.2.2⟩⟩, h⟩
    have HS0 := Lib.hid hS0
    clear hS0
    have hS : Below W5.heap.size W5 W5 := Below.refl _ _
    obtain ⟨⟨⟨c_a0, c_a1⟩, ⟨c_n0, c_n1⟩, ⟨c_want0, c_want1⟩⟩, _⟩ := HS0.out _ hS
    go_wp2_with fail
    refine (text_i (h_a.below hS) (by omega)).mono ?_
    rintro e u6 ⟨rfl, hbk⟩
    rw [← ED.out]
    replace hS := below_on hS hbk
    clear c_a0 c_a1 c_n0 c_n1 c_want0 c_want1
    clear hbk
    obtain ⟨⟨⟨c_a0, c_a1⟩, ⟨c_n0, c_n1⟩, ⟨c_want0, c_want1⟩⟩, _⟩ := HS0.out _ hS
    go_wp2_with fail
    refine (limbs_i (h_a.below hS) (by omega)).mono ?_
    rintro e u7 ⟨rfl, hbk⟩
    rw [← Eκ.out]
    replace hS := below_on hS hbk
    clear c_a0 c_a1 c_n0 c_n1 c_want0 c_want1
    clear hbk
    obtain ⟨⟨⟨c_a0, c_a1⟩, ⟨c_n0, c_n1⟩, ⟨c_want0, c_want1⟩⟩, _⟩ := HS0.out _ hS
    go_wp2_with fail
    refine (parse_i _ D (by omega) HDK.out.1).mono ?_
    rintro e u8 ⟨vv, rfl, hv, hbk⟩
    rw [HDK.out.2] at hv
    obtain ⟨dback, Aback, mback, kback, rfl, HD_back, hg_back⟩ := hv.form
    clear hv
    replace hS := below_on hS hbk
    clear c_a0 c_a1 c_n0 c_n1 c_want0 c_want1
    clear hbk
    go_upto_region 7 with (fail)
    obtain ⟨W9, hWk, p_back, hbv⟩ := var_new u8 dback Aback mback kback
    rw [← hWk]
    obtain ⟨b_back, hbe⟩ : ∃ b, b = u8.heap.size := ⟨_, rfl⟩
    rw [← hbe] at p_back ⊢
    replace hS := below_on hS hbv
    replace p_a := p_a.below hS
    replace h_a := h_a.below hS
    replace p_n := p_n.below hS
    replace h_n := h_n.below hS
    replace p_want := p_want.below hS
    replace h_want := h_want.below hS
    have h_back := ICan.mk HD_back.out (hg_back.below hbv)
    replace hw := below_on hw hS
    clear hWk hbe hS HS0 hg_back HD_back hbv
    have hS0 : ∀ w', Below W9.heap.size W9 w' → (fun w' => ((w'.cell? ⟨b_a, 0, none⟩ = some (.bool sa) ∧ w'.cell? ⟨b_a, 1, none⟩ = some (.slice Aa ma ka)) ∧ (w'.cell? ⟨b_n, 0, none⟩ = some (.bool dn) ∧ w'.cell? ⟨b_n, 1, none⟩ = some (.slice An mn kn)) ∧ (w'.cell? ⟨b_want, 0, none⟩ = some (.bool dwant) ∧ w'.cell? ⟨b_want, 1, none⟩ = some (.slice Awant mwant kwant)) ∧ (w'.cell? ⟨b_back, 0, none⟩ = some (.bool dback) ∧ w'.cell? ⟨b_back, 1, none⟩ = some (.slice Aback mback kback))) ∧ Below W9.heap.size W9 w') w' := fun w' h => ⟨⟨⟨(p_a.below h).facts.2.2.1, (p_a.below h).facts.2.2.2⟩, ⟨(p_n.below h).facts.2.2.1, (p_n.below h).facts.2.2.2⟩, ⟨(p_want.below h).facts.2.2.1, (p_want.below h).facts.2.2.2⟩, ⟨(p_back.below h).facts.2.2.1, (p_back.below h).facts.2.2.2⟩⟩, h⟩
    have HS0 := Lib.hid hS0
    clear hS0
    have hS : Below W9.heap.size W9 W9 := Below.refl _ _
    go_region_held3 (fun w' => ((w'.cell? ⟨b_a, 0, none⟩ = some (.bool sa) ∧ w'.cell? ⟨b_a, 1, none⟩ = some (.slice Aa ma ka)) ∧ (w'.cell? ⟨b_n, 0, none⟩ = some (.bool dn) ∧ w'.cell? ⟨b_n, 1, none⟩ = some (.slice An mn kn)) ∧ (w'.cell? ⟨b_want, 0, none⟩ = some (.bool dwant) ∧ w'.cell? ⟨b_want, 1, none⟩ = some (.slice Awant mwant kwant)) ∧ (w'.cell? ⟨b_back, 0, none⟩ = some (.bool dback) ∧ w'.cell? ⟨b_back, 1, none⟩ = some (.slice Aback mback kback))) ∧ Below W9.heap.size W9 w')
      (first | assumption | exact HS0.out _ (by assumption) | exact HS0.out _ (Below.drew (by assumption)) | exact HS0.out _ (below_on (s_below (by assumption)) (below_alloc1 _ _)) | exact HS0.out _ (below_on (by assumption) (below_alloc1 _ _)))
      (first
        | (go_at_call 15; have _q := mk3; clear _q; refine (is_l (h_back.below (s_below (by assumption))) h_t1.iv (by omega) (rfl)).mono ?_; rintro e wn ⟨rfl, hb⟩; have hS2 := below_on (s_below (by assumption)) hb; (try clear hS); have hS := hS2; clear hS2; clear hb; have mk4 : True := trivial)
        | (go_at_call 22; have _q := mk2; clear _q; refine (norm_r (h_a.below (s_below (by assumption))) (by omega)).mono ?_; rintro e wn ⟨t1, rfl, h_t1, hb⟩; have hS2 := below_on (s_below (by assumption)) hb; (try clear hS); have hS := hS2; clear hS2; clear hb; have mk3 : True := trivial)
        | (go_at_call 21; have _q := mk1; clear _q; refine (limbs_r (h_a.below (s_below (by assumption))) (by omega)).mono ?_; rintro e wn ⟨rfl, hb⟩; have hS2 := below_on (s_below (by assumption)) hb; (try clear hS); have hS := hS2; clear hS2; rw [← Eκ.out]; clear hb; have mk2 : True := trivial)
        | (go_at_call 20; have _q := mk0; clear _q; refine (text_r (h_a.below (s_below (by assumption))) (by omega)).mono ?_; rintro e wn ⟨rfl, hb⟩; have hS2 := below_on (s_below (by assumption)) hb; (try clear hS); have hS := hS2; clear hS2; rw [← ED.out]; clear hb; have mk1 : True := trivial)
        | (go_at_call 15; refine (is_l (h_n.below (s_below (by assumption))) (h_want.below (s_below (by assumption))).iv (by omega) (rfl)).mono ?_; rintro e wn ⟨rfl, hb⟩; have hS2 := below_on (s_below (by assumption)) hb; (try clear hS); have hS := hS2; clear hS2; clear hb; have mk0 : True := trivial))
    all_goals
      go_wp2_with fail
      go_ret
      exact ⟨rfl, below_on hw hS⟩
  · have HZ := Lib.hid hz
    clear hz
    refine (parse_ib _ S (by omega) HZ.out).mono ?_
    rintro e u10 ⟨vv, rfl, hv, hbk⟩
    obtain ⟨dn, An, mn, kn, rfl, HD_n, hg_n⟩ := hv.form
    clear hv
    replace hS := below_on hS hbk
    clear c_a0 c_a1
    clear hbk
    go_upto_region 3 with (fail)
    obtain ⟨W11, hWk, p_n, hbv⟩ := var_new u10 dn An mn kn
    rw [← hWk]
    obtain ⟨b_n, hbe⟩ : ∃ b, b = u10.heap.size := ⟨_, rfl⟩
    rw [← hbe] at p_n ⊢
    replace hS := below_on hS hbv
    replace p_a := p_a.below hS
    replace h_a := h_a.below hS
    have h_n := ICan.mk HD_n.out (hg_n.below hbv)
    replace hw := below_on hw hS
    clear hWk hbe hS HS0 hg_n HD_n hbv
    have hS0 : ∀ w', Below W11.heap.size W11 w' → (fun w' => ((w'.cell? ⟨b_a, 0, none⟩ = some (.bool sa) ∧ w'.cell? ⟨b_a, 1, none⟩ = some (.slice Aa ma ka)) ∧ (w'.cell? ⟨b_n, 0, none⟩ = some (.bool dn) ∧ w'.cell? ⟨b_n, 1, none⟩ = some (.slice An mn kn))) ∧ Below W11.heap.size W11 w') w' := fun w' h => ⟨⟨⟨(p_a.below h).facts.2.2.1, (p_a.below h).facts.2.2.2⟩, ⟨(p_n.below h).facts.2.2.1, (p_n.below h).facts.2.2.2⟩⟩, h⟩
    have HS0 := Lib.hid hS0
    clear hS0
    have hS : Below W11.heap.size W11 W11 := Below.refl _ _
    obtain ⟨⟨⟨c_a0, c_a1⟩, ⟨c_n0, c_n1⟩⟩, _⟩ := HS0.out _ hS
    go_wp2_with fail
    refine (parse_rb _ S (by omega) HZ.out).mono ?_
    rintro e u12 ⟨vv, rfl, hv, hbk⟩
    obtain ⟨dwant, Awant, mwant, kwant, rfl, HD_want, hg_want⟩ := hv.form
    clear hv
    replace hS := below_on hS hbk
    clear c_a0 c_a1 c_n0 c_n1
    clear hbk
    go_upto_region 4 with (fail)
    obtain ⟨W13, hWk, p_want, hbv⟩ := var_new u12 dwant Awant mwant kwant
    rw [← hWk]
    obtain ⟨b_want, hbe⟩ : ∃ b, b = u12.heap.size := ⟨_, rfl⟩
    rw [← hbe] at p_want ⊢
    replace hS := below_on hS hbv
    replace p_a := p_a.below hS
    replace h_a := h_a.below hS
    replace p_n := p_n.below hS
    replace h_n := h_n.below hS
    have h_want := ICan.mk HD_want.out (hg_want.below hbv)
    replace hw := below_on hw hS
    clear hWk hbe hS HS0 hg_want HD_want hbv
    have hS0 : ∀ w', Below W13.heap.size W13 w' → (fun w' => ((w'.cell? ⟨b_a, 0, none⟩ = some (.bool sa) ∧ w'.cell? ⟨b_a, 1, none⟩ = some (.slice Aa ma ka)) ∧ (w'.cell? ⟨b_n, 0, none⟩ = some (.bool dn) ∧ w'.cell? ⟨b_n, 1, none⟩ = some (.slice An mn kn)) ∧ (w'.cell? ⟨b_want, 0, none⟩ = some (.bool dwant) ∧ w'.cell? ⟨b_want, 1, none⟩ = some (.slice Awant mwant kwant))) ∧ Below W13.heap.size W13 w') w' := fun w' h => ⟨⟨⟨(p_a.below h).facts.2.2.1, (p_a.below h).facts.2.2.2⟩, ⟨(p_n.below h).facts.2.2.1, (p_n.below h).facts.2.2.2⟩, ⟨(p_want.below h).facts.2.2.1, (p_want.below h).facts.2.2.2⟩⟩, h⟩
    have HS0 := Lib.hid hS0
    clear hS0
    have hS : Below W13.heap.size W13 W13 := Below.refl _ _
    obtain ⟨⟨⟨c_a0, c_a1⟩, ⟨c_n0, c_n1⟩, ⟨c_want0, c_want1⟩⟩, _⟩ := HS0.out _ hS
    go_wp2_with fail
    refine (text_i (h_a.below hS) (by omega)).mono ?_
    rintro e u14 ⟨rfl, hbk⟩
    rw [← ED.out]
    replace hS := below_on hS hbk
    clear c_a0 c_a1 c_n0 c_n1 c_want0 c_want1
    clear hbk
    obtain ⟨⟨⟨c_a0, c_a1⟩, ⟨c_n0, c_n1⟩, ⟨c_want0, c_want1⟩⟩, _⟩ := HS0.out _ hS
    go_wp2_with fail
    refine (limbs_i (h_a.below hS) (by omega)).mono ?_
    rintro e u15 ⟨rfl, hbk⟩
    rw [← Eκ.out]
    replace hS := below_on hS hbk
    clear c_a0 c_a1 c_n0 c_n1 c_want0 c_want1
    clear hbk
    obtain ⟨⟨⟨c_a0, c_a1⟩, ⟨c_n0, c_n1⟩, ⟨c_want0, c_want1⟩⟩, _⟩ := HS0.out _ hS
    go_wp2_with fail
    refine (parse_i _ D (by omega) HDK.out.1).mono ?_
    rintro e u16 ⟨vv, rfl, hv, hbk⟩
    rw [HDK.out.2] at hv
    obtain ⟨dback, Aback, mback, kback, rfl, HD_back, hg_back⟩ := hv.form
    clear hv
    replace hS := below_on hS hbk
    clear c_a0 c_a1 c_n0 c_n1 c_want0 c_want1
    clear hbk
    go_upto_region 7 with (fail)
    obtain ⟨W17, hWk, p_back, hbv⟩ := var_new u16 dback Aback mback kback
    rw [← hWk]
    obtain ⟨b_back, hbe⟩ : ∃ b, b = u16.heap.size := ⟨_, rfl⟩
    rw [← hbe] at p_back ⊢
    replace hS := below_on hS hbv
    replace p_a := p_a.below hS
    replace h_a := h_a.below hS
    replace p_n := p_n.below hS
    replace h_n := h_n.below hS
    replace p_want := p_want.below hS
    replace h_want := h_want.below hS
    have h_back := ICan.mk HD_back.out (hg_back.below hbv)
    replace hw := below_on hw hS
    clear hWk hbe hS HS0 hg_back HD_back hbv
    have hS0 : ∀ w', Below W17.heap.size W17 w' → (fun w' => ((w'.cell? ⟨b_a, 0, none⟩ = some (.bool sa) ∧ w'.cell? ⟨b_a, 1, none⟩ = some (.slice Aa ma ka)) ∧ (w'.cell? ⟨b_n, 0, none⟩ = some (.bool dn) ∧ w'.cell? ⟨b_n, 1, none⟩ = some (.slice An mn kn)) ∧ (w'.cell? ⟨b_want, 0, none⟩ = some (.bool dwant) ∧ w'.cell? ⟨b_want, 1, none⟩ = some (.slice Awant mwant kwant)) ∧ (w'.cell? ⟨b_back, 0, none⟩ = some (.bool dback) ∧ w'.cell? ⟨b_back, 1, none⟩ = some (.slice Aback mback kback))) ∧ Below W17.heap.size W17 w') w' := fun w' h => ⟨⟨⟨(p_a.below h).facts.2.2.1, (p_a.below h).facts.2.2.2⟩, ⟨(p_n.below h).facts.2.2.1, (p_n.below h).facts.2.2.2⟩, ⟨(p_want.below h).facts.2.2.1, (p_want.below h).facts.2.2.2⟩, ⟨(p_back.below h).facts.2.2.1, (p_back.below h).facts.2.2.2⟩⟩, h⟩
    have HS0 := Lib.hid hS0
    clear hS0
    have hS : Below W17.heap.size W17 W17 := Below.refl _ _
    go_region_held3 (fun w' => ((w'.cell? ⟨b_a, 0, none⟩ = some (.bool sa) ∧ w'.cell? ⟨b_a, 1, none⟩ = some (.slice Aa ma ka)) ∧ (w'.cell? ⟨b_n, 0, none⟩ = some (.bool dn) ∧ w'.cell? ⟨b_n, 1, none⟩ = some (.slice An mn kn)) ∧ (w'.cell? ⟨b_want, 0, none⟩ = some (.bool dwant) ∧ w'.cell? ⟨b_want, 1, none⟩ = some (.slice Awant mwant kwant)) ∧ (w'.cell? ⟨b_back, 0, none⟩ = some (.bool dback) ∧ w'.cell? ⟨b_back, 1, none⟩ = some (.slice Aback mback kback))) ∧ Below W17.heap.size W17 w')
      (first | assumption | exact HS0.out _ (by assumption) | exact HS0.out _ (Below.drew (by assumption)) | exact HS0.out _ (below_on (s_below (by assumption)) (below_alloc1 _ _)) | exact HS0.out _ (below_on (by assumption) (below_alloc1 _ _)))
      (first
        | (go_at_call 15; have _q := mk3; clear _q; refine (is_l (h_back.below (s_below (by assumption))) h_t1.iv (by omega) (rfl)).mono ?_; rintro e wn ⟨rfl, hb⟩; have hS2 := below_on (s_below (by assumption)) hb; (try clear hS); have hS := hS2; clear hS2; clear hb; have mk4 : True := trivial)
        | (go_at_call 22; have _q := mk2; clear _q; refine (norm_r (h_a.below (s_below (by assumption))) (by omega)).mono ?_; rintro e wn ⟨t1, rfl, h_t1, hb⟩; have hS2 := below_on (s_below (by assumption)) hb; (try clear hS); have hS := hS2; clear hS2; clear hb; have mk3 : True := trivial)
        | (go_at_call 21; have _q := mk1; clear _q; refine (limbs_r (h_a.below (s_below (by assumption))) (by omega)).mono ?_; rintro e wn ⟨rfl, hb⟩; have hS2 := below_on (s_below (by assumption)) hb; (try clear hS); have hS := hS2; clear hS2; rw [← Eκ.out]; clear hb; have mk2 : True := trivial)
        | (go_at_call 20; have _q := mk0; clear _q; refine (text_r (h_a.below (s_below (by assumption))) (by omega)).mono ?_; rintro e wn ⟨rfl, hb⟩; have hS2 := below_on (s_below (by assumption)) hb; (try clear hS); have hS := hS2; clear hS2; rw [← ED.out]; clear hb; have mk1 : True := trivial)
        | (go_at_call 15; refine (is_l (h_n.below (s_below (by assumption))) (h_want.below (s_below (by assumption))).iv (by omega) (rfl)).mono ?_; rintro e wn ⟨rfl, hb⟩; have hS2 := below_on (s_below (by assumption)) hb; (try clear hS); have hS := hS2; clear hS2; clear hb; have mk0 : True := trivial))
    all_goals
      go_wp2_with fail
      go_ret
      exact ⟨rfl, below_on hw hS⟩
end Go.Proofs.YtiidghfkdjefgaaDoor

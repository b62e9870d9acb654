/-
  The walk of riddlelaw02.ZintQuotient: it answers true.
-/
import Derived.Test.YtiidghfkdjefgaaDoorZAwake
import Derived.Deep.RegionHeld3
import Derived.Test.YtiidghfkdjefgaaDoorZHand
import Derived.Deep.Cut
namespace Go.Proofs.YtiidghfkdjefgaaDoor
open Go.RowKit

theorem icmp_of {x y : Int} (h : x = y) : icmp x y = 0 := by rw [h, icmp_eq]
theorem zero_new (w : World) : ∃ W : World, W = w.alloc (.cells #[.bool false, .slice none 0 0] 24) ∧ Pair W w.heap.size 24 (.bool false) (.slice none 0 0) ∧ Below w.heap.size w W := ⟨_, rfl, Pair.new _ _ _ _, below_alloc1 _ _⟩
theorem store_pair {w w0 : World} {B b b' : Nat} {p : Bool} {X : Option Addr} {y q : Nat} {x0 x1 vx vy : Value} {Kx Ky nx ny : Nat} (h : Pair w b 24 (.bool p) (.slice X y q)) (h' : Pair w b' 24 x0 x1) (hne : b' ≠ b)
    (hx : Bag w vx Kx nx) (hy : Bag w vy Ky ny) (hS : Below B w0 w) (hle : B ≤ b) (u0 u1 : Value) :
    ∃ Y : World, Y = (w.setCell ⟨b, 0, none⟩ u0).setCell ⟨b, 1, none⟩ u1 ∧ Pair Y b 24 u0 u1 ∧ Pair Y b' 24 x0 x1 ∧ Bag Y vx Kx nx ∧ Bag Y vy Ky ny ∧ Below B w0 Y :=
  ⟨_, rfl, h.set _ _, h'.far hne _ _, hx.pair h _ _, hy.pair h _ _, below_pair hS hle _ _⟩
theorem ican_len {w : World} {d : Bool} {A : Option Addr} {n c K : Nat} (h : ICan w (.agg #[.bool d, .slice A n c]) K 0) : n = 0 := by
  obtain ⟨sl, e, hg⟩ := h
  have e2 : sl = .slice A n c := by injection e with e; injection e with e; injection e with _ e; injection e with e; exact e.symm
  rw [e2] at hg
  exact hg.len
theorem fmod_sign {x y : Int} (hy : y ≠ 0) : isgn (x.fmod y) = 0 ∨ isgn (x.fmod y) = isgn y := by
  rcases Int.lt_or_gt_of_ne hy with h | h
  · have h1 := (Int.fdiv_fmod_unique' (a := x) (r := x.fmod y) (q := x.fdiv y) h).1 ⟨rfl, rfl⟩
    rcases isgn_cases (x.fmod y) with ⟨a, e⟩ | ⟨a, e⟩ | ⟨a, e⟩
    · exact .inr (by rw [e]; exact (icmp_lt h).symm)
    · exact .inl e
    · omega
  · have h1 := (Int.fdiv_fmod_unique (a := x) (r := x.fmod y) (q := x.fdiv y) h).1 ⟨rfl, rfl⟩
    rcases isgn_cases (x.fmod y) with ⟨a, e⟩ | ⟨a, e⟩ | ⟨a, e⟩
    · omega
    · exact .inl e
    · exact .inr (by rw [e]; exact (icmp_gt h).symm)
theorem fmod_near {x y : Int} (hy : y ≠ 0) : icmp ((x.fmod y).natAbs : Int) (y.natAbs : Int) = -1 := by
  refine icmp_lt ?_
  rcases Int.lt_or_gt_of_ne hy with h | h
  · have h1 := (Int.fdiv_fmod_unique' (a := x) (r := x.fmod y) (q := x.fdiv y) h).1 ⟨rfl, rfl⟩
    omega
  · have h1 := (Int.fdiv_fmod_unique (a := x) (r := x.fmod y) (q := x.fdiv y) h).1 ⟨rfl, rfl⟩
    omega
theorem fdm_more {x y : Int} (hy : y ≠ 0) : (x + y).fdiv y = x.fdiv y + 1 ∧ (x + y).fmod y = x.fmod y := by
  have h1 := Int.add_mul_fdiv_right x 1 hy
  rw [Int.one_mul] at h1
  refine ⟨h1, ?_⟩
  rw [Int.fmod_def, Int.fmod_def, h1, Int.mul_add, Int.mul_one]
  omega

set_option maxRecDepth 100000 in
set_option maxHeartbeats 40000000 in
theorem walkZintQuotient (w : World) (a b : Value) (Ka Kb : Nat) (na nb : Int) (h_a : IV w a Ka na) (h_b : IV w b Kb nb) (hKa : Ka ≤ 1048576) (hKb : Kb ≤ 1048576) :
    Calls Tryd.prog 7 #[a, b] w fun e w' => e = .returned (.bool true) ∧ Below w.heap.size w w' := by
  obtain ⟨sa, xa, ⟨la, rfl, hma⟩, hza⟩ := h_a
  obtain ⟨Aa, ma, ka, rfl⟩ := hma.slice
  have h_a : IV w (.agg #[.bool sa, .slice Aa ma ka]) Ka na := ⟨sa, xa, ⟨_, rfl, hma⟩, hza⟩
  obtain ⟨sb, xb, ⟨lb, rfl, hmb⟩, hzb⟩ := h_b
  obtain ⟨Ab, mb, kb, rfl⟩ := hmb.slice
  have h_b : IV w (.agg #[.bool sb, .slice Ab mb kb]) Kb nb := ⟨sb, xb, ⟨_, rfl, hmb⟩, hzb⟩
  have hw0 : Below w.heap.size w w := Below.refl _ _
  obtain ⟨V0, hV0, p_a, hb0⟩ := var_new w sa Aa ma ka
  obtain ⟨b_a, hb_a⟩ : ∃ b, b = w.heap.size := ⟨_, rfl⟩
  rw [← hb_a] at p_a
  replace hw0 := below_on hw0 hb0
  obtain ⟨V1, hV1, p_b, hb1⟩ := var_new V0 sb Ab mb kb
  obtain ⟨b_b, hb_b⟩ : ∃ b, b = w.heap.size + 1 := ⟨_, rfl⟩
  rw [show V0.heap.size = b_b by rw [hV0, hb_b]; simp] at p_b
  replace p_a := p_a.below hb1
  replace hw0 := below_on hw0 hb1
  replace h_a := h_a.below hw0
  clear hma hza
  replace h_b := h_b.below hw0
  clear hmb hzb
  have HB_a := Lib.hid hb_a
  have HB_b := Lib.hid hb_b
  have HV0 := Lib.hid hV0
  have HV1 := Lib.hid hV1
  clear hb_a hb_b hV0 hV1 hb0 hb1
  have hw := hw0
  clear hw0
  go_enter Tryd.func7, Tryd.ntmps7
  go_wp2_with fail
  try simp only [World.size_alloc]
  rw [← HV0.out]
  rw [← HV1.out]
  try rw [← HB_b.out]
  try rw [← HB_a.out]
  clear HB_a HB_b
  clear HV0 HV1
  have hS0 : ∀ w', Below V1.heap.size V1 w' → (fun w' => ((w'.cell? ⟨b_a, 0, none⟩ = some (.bool sa) ∧ w'.cell? ⟨b_a, 1, none⟩ = some (.slice Aa ma ka)) ∧ (w'.cell? ⟨b_b, 0, none⟩ = some (.bool sb) ∧ w'.cell? ⟨b_b, 1, none⟩ = some (.slice Ab mb kb))) ∧ Below V1.heap.size V1 w') w' := fun w' h => ⟨⟨⟨(p_a.below h).facts.2.2.1, (p_a.below h).facts.2.2.2⟩, ⟨(p_b.below h).facts.2.2.1, (p_b.below h).facts.2.2.2⟩⟩, h⟩
  have HS0 := Lib.hid hS0
  clear hS0
  have hS : Below V1.heap.size V1 V1 := Below.refl _ _
  refine (awake_l _).mono ?_
  rintro e u1 ⟨rfl, hbk⟩
  replace hS := below_on hS hbk
  clear hbk
  obtain ⟨⟨⟨c_a0, c_a1⟩, ⟨c_b0, c_b1⟩⟩, _⟩ := HS0.out _ hS
  go_wp2_with fail
  by_cases hz : nb = 0
  · refine (dm_i0 (h_a.below hS) (h_b.below hS) (by omega) (by omega) hz).mono ?_
    rintro e u2 ⟨vq, vr, rfl, ⟨hv, hv2⟩, hbk⟩
    obtain ⟨dq, Aq, mq, kq, rfl, HD_q, hg_q⟩ := hv.form
    obtain ⟨dr, Ar, mr, kr, rfl, HD_r, hg_r⟩ := hv2.form
    clear hv hv2
    replace hS := below_on hS hbk
    clear c_a0 c_a1 c_b0 c_b1
    clear hbk
    go_upto_region 3 with (fail)
    obtain ⟨W3, hWk, p_q, p_r, hbv⟩ := var_new2 u2 dq Aq mq kq dr Ar mr kr
    rw [← hWk]
    obtain ⟨b_r, hbe2⟩ : ∃ b, b = u2.heap.size + 1 := ⟨_, rfl⟩
    rw [← hbe2] at p_r ⊢
    obtain ⟨b_q, hbe⟩ : ∃ b, b = u2.heap.size := ⟨_, rfl⟩
    rw [← hbe] at p_q ⊢
    replace hS := below_on hS hbv
    replace p_a := p_a.below hS
    replace h_a := h_a.below hS
    replace p_b := p_b.below hS
    replace h_b := h_b.below hS
    have h_q := ICan.mk HD_q.out (hg_q.below hbv)
    have h_r := ICan.mk HD_r.out (hg_r.below hbv)
    replace hw := below_on hw hS
    clear hWk hbe hbe2 hS HS0 hg_q HD_q hg_r HD_r hbv
    have hS0 : ∀ w', Below W3.heap.size W3 w' → (fun w' => ((w'.cell? ⟨b_a, 0, none⟩ = some (.bool sa) ∧ w'.cell? ⟨b_a, 1, none⟩ = some (.slice Aa ma ka)) ∧ (w'.cell? ⟨b_b, 0, none⟩ = some (.bool sb) ∧ w'.cell? ⟨b_b, 1, none⟩ = some (.slice Ab mb kb)) ∧ (w'.cell? ⟨b_q, 0, none⟩ = some (.bool dq) ∧ w'.cell? ⟨b_q, 1, none⟩ = some (.slice Aq mq kq)) ∧ (w'.cell? ⟨b_r, 0, none⟩ = some (.bool dr) ∧ w'.cell? ⟨b_r, 1, none⟩ = some (.slice Ar mr kr))) ∧ Below W3.heap.size W3 w') w' := fun w' h => ⟨⟨⟨(p_a.below h).facts.2.2.1, (p_a.below h).facts.2.2.2⟩, ⟨(p_b.below h).facts.2.2.1, (p_b.below h).facts.2.2.2⟩, ⟨(p_q.below h).facts.2.2.1, (p_q.below h).facts.2.2.2⟩, ⟨(p_r.below h).facts.2.2.1, (p_r.below h).facts.2.2.2⟩⟩, h⟩
    have HS0 := Lib.hid hS0
    clear hS0
    have hS : Below W3.heap.size W3 W3 := Below.refl _ _
    obtain ⟨⟨⟨c_a0, c_a1⟩, ⟨c_b0, c_b1⟩, ⟨c_q0, c_q1⟩, ⟨c_r0, c_r1⟩⟩, _⟩ := HS0.out _ hS
    go_wp2_with fail
    have hlq := ican_len h_q
    have hlr := ican_len h_r
    have HLQ := Lib.hid hlq
    have HLR := Lib.hid hlr
    clear hlq hlr
    refine (sign_i (h_b.below hS) (by omega)).mono ?_
    rintro e u4 ⟨rfl, hbk⟩
    rw [show isgn nb = 0 by rw [hz]; rfl]
    obtain rfl := HLQ.out
    obtain rfl := HLR.out
    replace hS := below_on hS hbk
    clear c_a0 c_a1 c_b0 c_b1 c_q0 c_q1 c_r0 c_r1
    clear hbk
    obtain ⟨⟨⟨c_a0, c_a1⟩, ⟨c_b0, c_b1⟩, ⟨c_q0, c_q1⟩, ⟨c_r0, c_r1⟩⟩, _⟩ := HS0.out _ hS
    go_wp2_with fail
    clear c_a0 c_a1 c_b0 c_b1 c_q0 c_q1 c_r0 c_r1
    go_ret
    exact ⟨rfl, below_on hw hS⟩
  · obtain ⟨σ, eσ⟩ : ∃ q, q = isgn nb := ⟨_, rfl⟩
    have Eσ := Lib.hid eσ
    clear eσ
    have hσ0 : (σ == 0) = false := by
      rw [Eσ.out]
      rcases isgn_cases nb with ⟨h, e⟩ | ⟨h, e⟩ | ⟨h, e⟩
      · rw [e]; rfl
      · exact absurd h hz
      · rw [e]; rfl
    refine (dm_i (h_a.below hS) (h_b.below hS) (by omega) (by omega) hz).mono ?_
    rintro e u5 ⟨vq, vr, rfl, ⟨hv, hv2⟩, hbk⟩
    obtain ⟨dq, Aq, mq, kq, rfl, HD_q, hg_q⟩ := hv.form
    obtain ⟨dr, Ar, mr, kr, rfl, HD_r, hg_r⟩ := hv2.form
    clear hv hv2
    replace hS := below_on hS hbk
    clear c_a0 c_a1 c_b0 c_b1
    clear hbk
    go_upto_region 3 with (fail)
    obtain ⟨W6, hWk, p_q, p_r, hbv⟩ := var_new2 u5 dq Aq mq kq dr Ar mr kr
    rw [← hWk]
    obtain ⟨b_r, hbe2⟩ : ∃ b, b = u5.heap.size + 1 := ⟨_, rfl⟩
    rw [← hbe2] at p_r ⊢
    obtain ⟨b_q, hbe⟩ : ∃ b, b = u5.heap.size := ⟨_, rfl⟩
    rw [← hbe] at p_q ⊢
    replace hS := below_on hS hbv
    replace p_a := p_a.below hS
    replace h_a := h_a.below hS
    replace p_b := p_b.below hS
    replace h_b := h_b.below hS
    have h_q := ICan.mk HD_q.out (hg_q.below hbv)
    have h_r := ICan.mk HD_r.out (hg_r.below hbv)
    replace hw := below_on hw hS
    clear hWk hbe hbe2 hS HS0 hg_q HD_q hg_r HD_r hbv
    have hS0 : ∀ w', Below W6.heap.size W6 w' → (fun w' => ((w'.cell? ⟨b_a, 0, none⟩ = some (.bool sa) ∧ w'.cell? ⟨b_a, 1, none⟩ = some (.slice Aa ma ka)) ∧ (w'.cell? ⟨b_b, 0, none⟩ = some (.bool sb) ∧ w'.cell? ⟨b_b, 1, none⟩ = some (.slice Ab mb kb)) ∧ (w'.cell? ⟨b_q, 0, none⟩ = some (.bool dq) ∧ w'.cell? ⟨b_q, 1, none⟩ = some (.slice Aq mq kq)) ∧ (w'.cell? ⟨b_r, 0, none⟩ = some (.bool dr) ∧ w'.cell? ⟨b_r, 1, none⟩ = some (.slice Ar mr kr))) ∧ Below W6.heap.size W6 w') w' := fun w' h => ⟨⟨⟨(p_a.below h).facts.2.2.1, (p_a.below h).facts.2.2.2⟩, ⟨(p_b.below h).facts.2.2.1, (p_b.below h).facts.2.2.2⟩, ⟨(p_q.below h).facts.2.2.1, (p_q.below h).facts.2.2.2⟩, ⟨(p_r.below h).facts.2.2.1, (p_r.below h).facts.2.2.2⟩⟩, h⟩
    have HS0 := Lib.hid hS0
    clear hS0
    have hS : Below W6.heap.size W6 W6 := Below.refl _ _
    obtain ⟨⟨⟨c_a0, c_a1⟩, ⟨c_b0, c_b1⟩, ⟨c_q0, c_q1⟩, ⟨c_r0, c_r1⟩⟩, _⟩ := HS0.out _ hS
    go_wp2_with fail
    refine (sign_i (h_b.below hS) (by omega)).mono ?_
    rintro e u7 ⟨rfl, hbk⟩
    rw [← Eσ.out]
    replace hS := below_on hS hbk
    clear c_a0 c_a1 c_b0 c_b1 c_q0 c_q1 c_r0 c_r1
    clear hbk
    go_upto_region 6 with (fail)
    go_region_held3 (fun w' => ((w'.cell? ⟨b_a, 0, none⟩ = some (.bool sa) ∧ w'.cell? ⟨b_a, 1, none⟩ = some (.slice Aa ma ka)) ∧ (w'.cell? ⟨b_b, 0, none⟩ = some (.bool sb) ∧ w'.cell? ⟨b_b, 1, none⟩ = some (.slice Ab mb kb)) ∧ (w'.cell? ⟨b_q, 0, none⟩ = some (.bool dq) ∧ w'.cell? ⟨b_q, 1, none⟩ = some (.slice Aq mq kq)) ∧ (w'.cell? ⟨b_r, 0, none⟩ = some (.bool dr) ∧ w'.cell? ⟨b_r, 1, none⟩ = some (.slice Ar mr kr))) ∧ Below W6.heap.size W6 w')
      (first | assumption | exact HS0.out _ (by assumption) | exact HS0.out _ (Below.drew (by assumption)) | exact HS0.out _ (below_on (s_below (by assumption)) (below_alloc1 _ _)) | exact HS0.out _ (below_on (by assumption) (below_alloc1 _ _)))
      (first
        | (go_at_call 24; have _q := mk1; clear _q; refine (cmp_i h_t2.iv (h_a.below (s_below (by assumption))) (by omega)).mono ?_; rintro e wn ⟨rfl, hb⟩; have hS2 := below_on (s_below (by assumption)) hb; (try clear hS); have hS := hS2; clear hS2; rw [icmp_of (by rw [Int.add_comm]; exact Int.fmod_add_fdiv_mul na nb)]; clear hb; have mk2 : True := trivial)
        | (go_at_call 23; have _q := mk0; clear _q; refine (add_i h_t1.iv (h_r.below (s_below (by assumption))).iv (by omega)).mono ?_; rintro e wn ⟨t2, rfl, h_t2, hb⟩; have hS2 := below_on (s_below (by assumption)) hb; (try clear hS); have hS := hS2; clear hS2; clear hb; have mk1 : True := trivial)
        | (go_at_call 25; refine (mul_i (h_q.below (s_below (by assumption))).iv (h_b.below (s_below (by assumption))) (by omega)).mono ?_; rintro e wn ⟨t1, rfl, h_t1, hb⟩; have hS2 := below_on (s_below (by assumption)) hb; (try clear hS); have hS := hS2; clear hS2; clear hb; have mk0 : True := trivial))
    clear mk0 mk1 mk2
    go_upto_region 7 with (fail)
    obtain ⟨⟨⟨c_a0, c_a1⟩, ⟨c_b0, c_b1⟩, ⟨c_q0, c_q1⟩, ⟨c_r0, c_r1⟩⟩, _⟩ := HS0.out _ hS
    go_wp2_with fail
    clear h_t1 h_t2
    obtain ⟨ρ, eρ⟩ : ∃ q, q = isgn (na.fmod nb) := ⟨_, rfl⟩
    have Eρ := Lib.hid eρ
    clear eρ
    have hρ : ρ = 0 ∨ ρ = σ := by rw [Eρ.out, Eσ.out]; exact fmod_sign hz
    have HRHO := Lib.hid hρ
    clear hρ
    refine (sign_i (h_r.below hS).iv (by omega)).mono ?_
    rintro e u8 ⟨rfl, hbk⟩
    rw [← Eρ.out]
    replace hS := below_on hS hbk
    clear c_a0 c_a1 c_b0 c_b1 c_q0 c_q1 c_r0 c_r1
    clear hbk
    go_upto_region 8 with (fail)
    go_region_held3 (fun w' => ((w'.cell? ⟨b_a, 0, none⟩ = some (.bool sa) ∧ w'.cell? ⟨b_a, 1, none⟩ = some (.slice Aa ma ka)) ∧ (w'.cell? ⟨b_b, 0, none⟩ = some (.bool sb) ∧ w'.cell? ⟨b_b, 1, none⟩ = some (.slice Ab mb kb)) ∧ (w'.cell? ⟨b_q, 0, none⟩ = some (.bool dq) ∧ w'.cell? ⟨b_q, 1, none⟩ = some (.slice Aq mq kq)) ∧ (w'.cell? ⟨b_r, 0, none⟩ = some (.bool dr) ∧ w'.cell? ⟨b_r, 1, none⟩ = some (.slice Ar mr kr))) ∧ Below W6.heap.size W6 w')
      (first | assumption | exact HS0.out _ (by assumption) | exact HS0.out _ (Below.drew (by assumption)) | exact HS0.out _ (below_on (s_below (by assumption)) (below_alloc1 _ _)) | exact HS0.out _ (below_on (by assumption) (below_alloc1 _ _)))
      (first
        | (go_at_call 24; have _q := mk1; clear _q; refine (cmp_i h_t1.iv h_t2.iv (by omega)).mono ?_; rintro e wn ⟨rfl, hb⟩; have hS2 := below_on (s_below (by assumption)) hb; (try clear hS); have hS := hS2; clear hS2; rw [fmod_near hz]; clear hb; have mk2 : True := trivial)
        | (go_at_call 29; have _q := mk0; clear _q; refine (abs_i (h_b.below (s_below (by assumption))) (by omega)).mono ?_; rintro e wn ⟨t2, rfl, h_t2, hb⟩; have hS2 := below_on (s_below (by assumption)) hb; (try clear hS); have hS := hS2; clear hS2; replace h_t1 := h_t1.below hb; clear hb; have mk1 : True := trivial)
        | (go_at_call 29; refine (abs_i (h_r.below (s_below (by assumption))).iv (by omega)).mono ?_; rintro e wn ⟨t1, rfl, h_t1, hb⟩; have hS2 := below_on (s_below (by assumption)) hb; (try clear hS); have hS := hS2; clear hS2; clear hb; have mk0 : True := trivial))
    clear mk0 mk1 mk2
    go_upto_region 9 with (fail)
    clear h_t1 h_t2
    go_cut [13, 14, 15] from 18 (fun v13 v14 v15 wc => ∃ b13 b14, v13 = .pointer (some ⟨b13, 0, none⟩) ∧ v14 = .pointer (some ⟨b14, 0, none⟩) ∧ v15 = .int .i64 0 ∧ At wc b13 (Ka + Kb + 1 + 3) ((na + nb).fdiv nb) ∧ At wc b14 (2 * Kb + 1) ((na + nb).fmod nb) ∧ Below W6.heap.size W6 wc)
    case first =>
      refine wp_region_noPanic ?_
      refine wp_region_held_drew (S := (fun w' => ((w'.cell? ⟨b_a, 0, none⟩ = some (.bool sa) ∧ w'.cell? ⟨b_a, 1, none⟩ = some (.slice Aa ma ka)) ∧ (w'.cell? ⟨b_b, 0, none⟩ = some (.bool sb) ∧ w'.cell? ⟨b_b, 1, none⟩ = some (.slice Ab mb kb)) ∧ (w'.cell? ⟨b_q, 0, none⟩ = some (.bool dq) ∧ w'.cell? ⟨b_q, 1, none⟩ = some (.slice Aq mq kq)) ∧ (w'.cell? ⟨b_r, 0, none⟩ = some (.bool dr) ∧ w'.cell? ⟨b_r, 1, none⟩ = some (.slice Ar mr kr))) ∧ Below W6.heap.size W6 w')) (by kernel_rfl) ?_ (fun hHeld => ?_)
      · exact HS0.out _ (Below.drew hS)
      replace hS := hS.drew
      generalize hX0 : World.drew _ = X0 at *
      clear hX0
      (try dsimp only at hHeld)
      refine take_at 0 (by kernel_rfl) (by kernel_rfl) (by kernel_rfl) (fun _ _ _ _ _ h => h) ⟨_, rfl⟩ (by assumption) (fun o ho => ?_)
      simp only [List.getElem?_toArray, List.getElem?_cons_zero, Option.some.injEq] at ho
      subst ho
      refine ⟨?_, ⟨by rfl, ?_⟩, ?_⟩
      rotate_left
      · intro w hSw
        (try dsimp only at hSw)
        (go_simp; try with_reducible rfl)
      (try simp only [Act.put, List.setIfInBounds_toArray, List.set_cons_zero, List.set_cons_succ])
      refine take_at 1 (by kernel_rfl) (by kernel_rfl) (by kernel_rfl) (fun _ _ _ _ _ h => h) ⟨_, rfl⟩ (by assumption) (fun o ho => ?_)
      simp only [List.getElem?_toArray, List.getElem?_cons_succ, List.getElem?_cons_zero, Option.some.injEq] at ho
      subst ho
      refine ⟨?_, ⟨by rfl, ?_⟩, ?_⟩
      rotate_left
      · intro w hSw
        (try dsimp only at hSw)
        (go_simp; try with_reducible rfl)
      (try simp only [Act.put, List.setIfInBounds_toArray, List.set_cons_zero, List.set_cons_succ])
      refine take_at 3 (by kernel_rfl) (by kernel_rfl) (by kernel_rfl) (fun _ _ _ _ _ h => h) ⟨_, rfl⟩ (by assumption) (fun o ho => ?_)
      simp only [List.getElem?_toArray, List.getElem?_cons_succ, List.getElem?_cons_zero, Option.some.injEq] at ho
      subst ho
      refine ⟨?_, ⟨by rfl, ?_⟩, ?_⟩
      rotate_left
      · intro w hSw
        (try dsimp only at hSw)
        (go_simp; try with_reducible rfl)
      (try simp only [Act.put, List.setIfInBounds_toArray, List.set_cons_zero, List.set_cons_succ])
      refine wpAnyH_ready (rs := [2, 9, 10]) (by kernel_rfl) (by simp) ?_
      refine ready_at 2 ⟨_, rfl⟩ (fun o ho K hK => ?_) ?_
      · simp only [List.getElem?_toArray, List.getElem?_cons_succ, List.getElem?_cons_zero, Option.some.injEq] at ho
        subst ho
        go_simp
        refine (add_i (h_a.below hS) (h_b.below hS) (by omega)).mono ?_
        rintro e y1 ⟨t1, rfl, h_t1, hbk⟩
        replace hS := below_on hS hbk
        refine hK.out _ _ ?_ (fun hHeld2 => ?_)
        · exact HS0.out _ hS
        replace hHeld := hHeld2
        clear hK K hHeld2 hbk
        (try dsimp only at hHeld)
        (try simp only [List.setIfInBounds_toArray, List.set_cons_zero, List.set_cons_succ])
        refine wpAnyH_ready (rs := [4, 9, 10]) (by kernel_rfl) (by simp) ?_
        refine ready_at 4 ⟨_, rfl⟩ (fun o ho K hK => ?_) ?_
        · simp only [List.getElem?_toArray, List.getElem?_cons_succ, List.getElem?_cons_zero, Option.some.injEq] at ho
          subst ho
          go_simp
          refine (dm_i h_t1.iv (h_b.below hS) (by omega) (by omega) hz).mono ?_
          rintro e y2 ⟨vx, vy, rfl, ⟨hvx, hvy⟩, hbk⟩
          obtain ⟨dx, Ax, mx, kx, rfl, HDx, hgx⟩ := hvx.form
          obtain ⟨dy, Ay, my, ky, rfl, HDy, hgy⟩ := hvy.form
          clear hvx hvy h_t1
          replace hS := below_on hS hbk
          refine hK.out _ _ ?_ (fun hHeld2 => ?_)
          · exact HS0.out _ hS
          replace hHeld := hHeld2
          clear hK K hHeld2 hbk
          (try dsimp only at hHeld)
          (try simp only [List.setIfInBounds_toArray, List.set_cons_zero, List.set_cons_succ])
          refine take_at 5 (by kernel_rfl) (by kernel_rfl) (by kernel_rfl) (fun _ _ _ _ _ h => h) ⟨_, rfl⟩ (by assumption) (fun o ho => ?_)
          simp only [List.getElem?_toArray, List.getElem?_cons_succ, List.getElem?_cons_zero, Option.some.injEq] at ho
          subst ho
          refine ⟨?_, ⟨by rfl, ?_⟩, ?_⟩
          rotate_left
          · intro w hSw
            (try dsimp only at hSw)
            (go_simp; try with_reducible rfl)
          (try simp only [Act.put, List.setIfInBounds_toArray, List.set_cons_zero, List.set_cons_succ])
          refine take_at 6 (by kernel_rfl) (by kernel_rfl) (by kernel_rfl) (fun _ _ _ _ _ h => h) ⟨_, rfl⟩ (by assumption) (fun o ho => ?_)
          simp only [List.getElem?_toArray, List.getElem?_cons_succ, List.getElem?_cons_zero, Option.some.injEq] at ho
          subst ho
          refine ⟨?_, ⟨by rfl, ?_⟩, ?_⟩
          rotate_left
          · intro w hSw
            (try dsimp only at hSw)
            (go_simp; try with_reducible rfl)
          (try simp only [Act.put, List.setIfInBounds_toArray, List.set_cons_zero, List.set_cons_succ])
          refine take_at 7 (by kernel_rfl) (by kernel_rfl) (by kernel_rfl) (fun _ _ _ _ _ h => h) ⟨_, rfl⟩ (by assumption) (fun o ho => ?_)
          simp only [List.getElem?_toArray, List.getElem?_cons_succ, List.getElem?_cons_zero, Option.some.injEq] at ho
          subst ho
          refine ⟨?_, ⟨by rfl, ?_⟩, ?_⟩
          rotate_left
          · intro w hSw
            (try dsimp only at hSw)
            (go_simp; try with_reducible rfl)
          (try simp only [Act.put, List.setIfInBounds_toArray, List.set_cons_zero, List.set_cons_succ])
          refine take_at 8 (by kernel_rfl) (by kernel_rfl) (by kernel_rfl) (fun _ _ _ _ _ h => h) ⟨_, rfl⟩ (by assumption) (fun o ho => ?_)
          simp only [List.getElem?_toArray, List.getElem?_cons_succ, List.getElem?_cons_zero, Option.some.injEq] at ho
          subst ho
          refine ⟨?_, ⟨by rfl, ?_⟩, ?_⟩
          rotate_left
          · intro w hSw
            (try dsimp only at hSw)
            (go_simp; try with_reducible rfl)
          (try simp only [Act.put, List.setIfInBounds_toArray, List.set_cons_zero, List.set_cons_succ])
          refine wpAnyH_ready (rs := [9, 10]) (by kernel_rfl) (by simp) ?_
          refine ready_at 9 ⟨_, rfl⟩ (fun o ho K hK => ?_) ?_
          · simp only [List.getElem?_toArray, List.getElem?_cons_succ, List.getElem?_cons_zero, Option.some.injEq] at ho
            subst ho
            go_simp
            obtain ⟨y3, hYn, z13, hbk⟩ := zero_new y2
            rw [← hYn]
            obtain ⟨b13, hbn⟩ : ∃ b, b = y2.heap.size := ⟨_, rfl⟩
            have hle13 : W6.heap.size ≤ b13 := by have := hS.size; omega
            rw [← hbn] at z13 ⊢
            replace hS := below_on hS hbk
            replace hgx := hgx.below hbk
            replace hgy := hgy.below hbk
            clear hYn hbn
            refine hK.out _ _ ?_ (fun hHeld2 => ?_)
            · exact HS0.out _ hS
            replace hHeld := hHeld2
            clear hK K hHeld2 hbk
            (try dsimp only at hHeld)
            (try simp only [List.setIfInBounds_toArray, List.set_cons_zero, List.set_cons_succ])
            refine wpAnyH_ready (rs := [10]) (by kernel_rfl) (by simp) ?_
            refine ready_at 10 ⟨_, rfl⟩ (fun o ho K hK => ?_) ?_
            · simp only [List.getElem?_toArray, List.getElem?_cons_succ, List.getElem?_cons_zero, Option.some.injEq] at ho
              subst ho
              go_simp
              obtain ⟨y4, hYn, z14, hbk⟩ := zero_new y3
              rw [← hYn]
              obtain ⟨b14, hbn⟩ : ∃ b, b = y3.heap.size := ⟨_, rfl⟩
              have hle14 : W6.heap.size ≤ b14 := by have := hS.size; omega
              have hne : b13 < b14 := by have := z13.lt; omega
              rw [← hbn] at z14 ⊢
              replace hS := below_on hS hbk
              replace hgx := hgx.below hbk
              replace hgy := hgy.below hbk
              replace z13 := z13.below hbk
              clear hYn hbn
              refine hK.out _ _ ?_ (fun hHeld2 => ?_)
              · exact HS0.out _ hS
              replace hHeld := hHeld2
              clear hK K hHeld2 hbk
              (try dsimp only at hHeld)
              (try simp only [List.setIfInBounds_toArray, List.set_cons_zero, List.set_cons_succ])
              refine wpAnyH_ready (rs := [11]) (by kernel_rfl) (by simp) ?_
              refine ready_at 11 ⟨_, rfl⟩ (fun o ho K hK => ?_) ?_
              · simp only [List.getElem?_toArray, List.getElem?_cons_succ, List.getElem?_cons_zero, Option.some.injEq] at ho
                subst ho
                obtain ⟨f0, f1, c0, c1⟩ := z13.facts
                go_simp
                obtain ⟨y5, hYn, z13', z14', hgx', hgy', hS'⟩ := store_pair z13 z14 (by omega) hgx hgy hS hle13 (.bool dx) (.slice Ax mx kx)
                rw [← hYn]
                clear hYn z13 z14 hgx hgy hS f0 f1 c0 c1
                have z13 := z13'
                have z14 := z14'
                have hgx := hgx'
                have hgy := hgy'
                have hS := hS'
                clear z13' z14' hgx' hgy' hS'
                refine hK.out _ _ ?_ (fun hHeld2 => ?_)
                · exact HS0.out _ hS
                replace hHeld := hHeld2
                clear hK K hHeld2
                (try dsimp only at hHeld)
                (try simp only [List.setIfInBounds_toArray, List.set_cons_zero, List.set_cons_succ])
                refine wpAnyH_ready (rs := [12]) (by kernel_rfl) (by simp) ?_
                refine ready_at 12 ⟨_, rfl⟩ (fun o ho K hK => ?_) ?_
                · simp only [List.getElem?_toArray, List.getElem?_cons_succ, List.getElem?_cons_zero, Option.some.injEq] at ho
                  subst ho
                  obtain ⟨f0, f1, c0, c1⟩ := z14.facts
                  go_simp
                  obtain ⟨y6, hYn, z14', z13', hgx', hgy', hS'⟩ := store_pair z14 z13 (by omega) hgx hgy hS hle14 (.bool dy) (.slice Ay my ky)
                  rw [← hYn]
                  clear hYn z13 z14 hgx hgy hS f0 f1 c0 c1
                  have z13 := z13'
                  have z14 := z14'
                  have hgx := hgx'
                  have hgy := hgy'
                  have hS := hS'
                  clear z13' z14' hgx' hgy' hS'
                  refine hK.out _ _ ?_ (fun hHeld2 => ?_)
                  · exact HS0.out _ hS
                  replace hHeld := hHeld2
                  clear hK K hHeld2
                  (try dsimp only at hHeld)
                  (try simp only [List.setIfInBounds_toArray, List.set_cons_zero, List.set_cons_succ])
                  refine take_at 13 (by kernel_rfl) (by kernel_rfl) (by kernel_rfl) (fun _ _ _ _ _ h => h) ⟨_, rfl⟩ (by assumption) (fun o ho => ?_)
                  simp only [List.getElem?_toArray, List.getElem?_cons_succ, List.getElem?_cons_zero, Option.some.injEq] at ho
                  subst ho
                  refine ⟨?_, ⟨by rfl, ?_⟩, ?_⟩
                  rotate_left
                  · intro w hSw
                    (try dsimp only at hSw)
                    (go_simp; try with_reducible rfl)
                  (try simp only [Act.put, List.setIfInBounds_toArray, List.set_cons_zero, List.set_cons_succ])
                  refine wpAnyH_done (by kernel_rfl) ?_ _
                  refine NoPanic.normal ?_
                  go_wp2_with fail
                  go_meet
                  case rel => exact ⟨b13, b14, rfl, rfl, rfl, At.of z13 HDx hgx, At.of z14 HDy hgy, hS⟩
                exact AllReadyH.nil
              exact AllReadyH.nil
            exact AllReadyH.nil
          refine ready_at 10 ⟨_, rfl⟩ (fun o ho K hK => ?_) ?_
          · simp only [List.getElem?_toArray, List.getElem?_cons_succ, List.getElem?_cons_zero, Option.some.injEq] at ho
            subst ho
            go_simp
            obtain ⟨y7, hYn, z14, hbk⟩ := zero_new y2
            rw [← hYn]
            obtain ⟨b14, hbn⟩ : ∃ b, b = y2.heap.size := ⟨_, rfl⟩
            have hle14 : W6.heap.size ≤ b14 := by have := hS.size; omega
            rw [← hbn] at z14 ⊢
            replace hS := below_on hS hbk
            replace hgx := hgx.below hbk
            replace hgy := hgy.below hbk
            clear hYn hbn
            refine hK.out _ _ ?_ (fun hHeld2 => ?_)
            · exact HS0.out _ hS
            replace hHeld := hHeld2
            clear hK K hHeld2 hbk
            (try dsimp only at hHeld)
            (try simp only [List.setIfInBounds_toArray, List.set_cons_zero, List.set_cons_succ])
            refine wpAnyH_ready (rs := [9]) (by kernel_rfl) (by simp) ?_
            refine ready_at 9 ⟨_, rfl⟩ (fun o ho K hK => ?_) ?_
            · simp only [List.getElem?_toArray, List.getElem?_cons_succ, List.getElem?_cons_zero, Option.some.injEq] at ho
              subst ho
              go_simp
              obtain ⟨y8, hYn, z13, hbk⟩ := zero_new y7
              rw [← hYn]
              obtain ⟨b13, hbn⟩ : ∃ b, b = y7.heap.size := ⟨_, rfl⟩
              have hle13 : W6.heap.size ≤ b13 := by have := hS.size; omega
              have hne : b14 < b13 := by have := z14.lt; omega
              rw [← hbn] at z13 ⊢
              replace hS := below_on hS hbk
              replace hgx := hgx.below hbk
              replace hgy := hgy.below hbk
              replace z14 := z14.below hbk
              clear hYn hbn
              refine hK.out _ _ ?_ (fun hHeld2 => ?_)
              · exact HS0.out _ hS
              replace hHeld := hHeld2
              clear hK K hHeld2 hbk
              (try dsimp only at hHeld)
              (try simp only [List.setIfInBounds_toArray, List.set_cons_zero, List.set_cons_succ])
              refine wpAnyH_ready (rs := [11]) (by kernel_rfl) (by simp) ?_
              refine ready_at 11 ⟨_, rfl⟩ (fun o ho K hK => ?_) ?_
              · simp only [List.getElem?_toArray, List.getElem?_cons_succ, List.getElem?_cons_zero, Option.some.injEq] at ho
                subst ho
                obtain ⟨f0, f1, c0, c1⟩ := z13.facts
                go_simp
                obtain ⟨y9, hYn, z13', z14', hgx', hgy', hS'⟩ := store_pair z13 z14 (by omega) hgx hgy hS hle13 (.bool dx) (.slice Ax mx kx)
                rw [← hYn]
                clear hYn z13 z14 hgx hgy hS f0 f1 c0 c1
                have z13 := z13'
                have z14 := z14'
                have hgx := hgx'
                have hgy := hgy'
                have hS := hS'
                clear z13' z14' hgx' hgy' hS'
                refine hK.out _ _ ?_ (fun hHeld2 => ?_)
                · exact HS0.out _ hS
                replace hHeld := hHeld2
                clear hK K hHeld2
                (try dsimp only at hHeld)
                (try simp only [List.setIfInBounds_toArray, List.set_cons_zero, List.set_cons_succ])
                refine wpAnyH_ready (rs := [12]) (by kernel_rfl) (by simp) ?_
                refine ready_at 12 ⟨_, rfl⟩ (fun o ho K hK => ?_) ?_
                · simp only [List.getElem?_toArray, List.getElem?_cons_succ, List.getElem?_cons_zero, Option.some.injEq] at ho
                  subst ho
                  obtain ⟨f0, f1, c0, c1⟩ := z14.facts
                  go_simp
                  obtain ⟨y10, hYn, z14', z13', hgx', hgy', hS'⟩ := store_pair z14 z13 (by omega) hgx hgy hS hle14 (.bool dy) (.slice Ay my ky)
                  rw [← hYn]
                  clear hYn z13 z14 hgx hgy hS f0 f1 c0 c1
                  have z13 := z13'
                  have z14 := z14'
                  have hgx := hgx'
                  have hgy := hgy'
                  have hS := hS'
                  clear z13' z14' hgx' hgy' hS'
                  refine hK.out _ _ ?_ (fun hHeld2 => ?_)
                  · exact HS0.out _ hS
                  replace hHeld := hHeld2
                  clear hK K hHeld2
                  (try dsimp only at hHeld)
                  (try simp only [List.setIfInBounds_toArray, List.set_cons_zero, List.set_cons_succ])
                  refine take_at 13 (by kernel_rfl) (by kernel_rfl) (by kernel_rfl) (fun _ _ _ _ _ h => h) ⟨_, rfl⟩ (by assumption) (fun o ho => ?_)
                  simp only [List.getElem?_toArray, List.getElem?_cons_succ, List.getElem?_cons_zero, Option.some.injEq] at ho
                  subst ho
                  refine ⟨?_, ⟨by rfl, ?_⟩, ?_⟩
                  rotate_left
                  · intro w hSw
                    (try dsimp only at hSw)
                    (go_simp; try with_reducible rfl)
                  (try simp only [Act.put, List.setIfInBounds_toArray, List.set_cons_zero, List.set_cons_succ])
                  refine wpAnyH_done (by kernel_rfl) ?_ _
                  refine NoPanic.normal ?_
                  go_wp2_with fail
                  go_meet
                  case rel => exact ⟨b13, b14, rfl, rfl, rfl, At.of z13 HDx hgx, At.of z14 HDy hgy, hS⟩
                exact AllReadyH.nil
              exact AllReadyH.nil
            exact AllReadyH.nil
          exact AllReadyH.nil
        refine ready_at 9 ⟨_, rfl⟩ (fun o ho K hK => ?_) ?_
        · simp only [List.getElem?_toArray, List.getElem?_cons_succ, List.getElem?_cons_zero, Option.some.injEq] at ho
          subst ho
          go_simp
          obtain ⟨y11, hYn, z13, hbk⟩ := zero_new y1
          rw [← hYn]
          obtain ⟨b13, hbn⟩ : ∃ b, b = y1.heap.size := ⟨_, rfl⟩
          have hle13 : W6.heap.size ≤ b13 := by have := hS.size; omega
          rw [← hbn] at z13 ⊢
          replace hS := below_on hS hbk
          replace h_t1 := h_t1.below hbk
          clear hYn hbn
          refine hK.out _ _ ?_ (fun hHeld2 => ?_)
          · exact HS0.out _ hS
          replace hHeld := hHeld2
          clear hK K hHeld2 hbk
          (try dsimp only at hHeld)
          (try simp only [List.setIfInBounds_toArray, List.set_cons_zero, List.set_cons_succ])
          refine wpAnyH_ready (rs := [4, 10]) (by kernel_rfl) (by simp) ?_
          refine ready_at 4 ⟨_, rfl⟩ (fun o ho K hK => ?_) ?_
          · simp only [List.getElem?_toArray, List.getElem?_cons_succ, List.getElem?_cons_zero, Option.some.injEq] at ho
            subst ho
            go_simp
            refine (dm_i h_t1.iv (h_b.below hS) (by omega) (by omega) hz).mono ?_
            rintro e y12 ⟨vx, vy, rfl, ⟨hvx, hvy⟩, hbk⟩
            obtain ⟨dx, Ax, mx, kx, rfl, HDx, hgx⟩ := hvx.form
            obtain ⟨dy, Ay, my, ky, rfl, HDy, hgy⟩ := hvy.form
            clear hvx hvy h_t1
            replace hS := below_on hS hbk
            replace z13 := z13.below hbk
            refine hK.out _ _ ?_ (fun hHeld2 => ?_)
            · exact HS0.out _ hS
            replace hHeld := hHeld2
            clear hK K hHeld2 hbk
            (try dsimp only at hHeld)
            (try simp only [List.setIfInBounds_toArray, List.set_cons_zero, List.set_cons_succ])
            refine take_at 5 (by kernel_rfl) (by kernel_rfl) (by kernel_rfl) (fun _ _ _ _ _ h => h) ⟨_, rfl⟩ (by assumption) (fun o ho => ?_)
            simp only [List.getElem?_toArray, List.getElem?_cons_succ, List.getElem?_cons_zero, Option.some.injEq] at ho
            subst ho
            refine ⟨?_, ⟨by rfl, ?_⟩, ?_⟩
            rotate_left
            · intro w hSw
              (try dsimp only at hSw)
              (go_simp; try with_reducible rfl)
            (try simp only [Act.put, List.setIfInBounds_toArray, List.set_cons_zero, List.set_cons_succ])
            refine take_at 6 (by kernel_rfl) (by kernel_rfl) (by kernel_rfl) (fun _ _ _ _ _ h => h) ⟨_, rfl⟩ (by assumption) (fun o ho => ?_)
            simp only [List.getElem?_toArray, List.getElem?_cons_succ, List.getElem?_cons_zero, Option.some.injEq] at ho
            subst ho
            refine ⟨?_, ⟨by rfl, ?_⟩, ?_⟩
            rotate_left
            · intro w hSw
              (try dsimp only at hSw)
              (go_simp; try with_reducible rfl)
            (try simp only [Act.put, List.setIfInBounds_toArray, List.set_cons_zero, List.set_cons_succ])
            refine take_at 7 (by kernel_rfl) (by kernel_rfl) (by kernel_rfl) (fun _ _ _ _ _ h => h) ⟨_, rfl⟩ (by assumption) (fun o ho => ?_)
            simp only [List.getElem?_toArray, List.getElem?_cons_succ, List.getElem?_cons_zero, Option.some.injEq] at ho
            subst ho
            refine ⟨?_, ⟨by rfl, ?_⟩, ?_⟩
            rotate_left
            · intro w hSw
              (try dsimp only at hSw)
              (go_simp; try with_reducible rfl)
            (try simp only [Act.put, List.setIfInBounds_toArray, List.set_cons_zero, List.set_cons_succ])
            refine take_at 8 (by kernel_rfl) (by kernel_rfl) (by kernel_rfl) (fun _ _ _ _ _ h => h) ⟨_, rfl⟩ (by assumption) (fun o ho => ?_)
            simp only [List.getElem?_toArray, List.getElem?_cons_succ, List.getElem?_cons_zero, Option.some.injEq] at ho
            subst ho
            refine ⟨?_, ⟨by rfl, ?_⟩, ?_⟩
            rotate_left
            · intro w hSw
              (try dsimp only at hSw)
              (go_simp; try with_reducible rfl)
            (try simp only [Act.put, List.setIfInBounds_toArray, List.set_cons_zero, List.set_cons_succ])
            refine wpAnyH_ready (rs := [10]) (by kernel_rfl) (by simp) ?_
            refine ready_at 10 ⟨_, rfl⟩ (fun o ho K hK => ?_) ?_
            · simp only [List.getElem?_toArray, List.getElem?_cons_succ, List.getElem?_cons_zero, Option.some.injEq] at ho
              subst ho
              go_simp
              obtain ⟨y13, hYn, z14, hbk⟩ := zero_new y12
              rw [← hYn]
              obtain ⟨b14, hbn⟩ : ∃ b, b = y12.heap.size := ⟨_, rfl⟩
              have hle14 : W6.heap.size ≤ b14 := by have := hS.size; omega
              have hne : b13 < b14 := by have := z13.lt; omega
              rw [← hbn] at z14 ⊢
              replace hS := below_on hS hbk
              replace hgx := hgx.below hbk
              replace hgy := hgy.below hbk
              replace z13 := z13.below hbk
              clear hYn hbn
              refine hK.out _ _ ?_ (fun hHeld2 => ?_)
              · exact HS0.out _ hS
              replace hHeld := hHeld2
              clear hK K hHeld2 hbk
              (try dsimp only at hHeld)
              (try simp only [List.setIfInBounds_toArray, List.set_cons_zero, List.set_cons_succ])
              refine wpAnyH_ready (rs := [11]) (by kernel_rfl) (by simp) ?_
              refine ready_at 11 ⟨_, rfl⟩ (fun o ho K hK => ?_) ?_
              · simp only [List.getElem?_toArray, List.getElem?_cons_succ, List.getElem?_cons_zero, Option.some.injEq] at ho
                subst ho
                obtain ⟨f0, f1, c0, c1⟩ := z13.facts
                go_simp
                obtain ⟨y14, hYn, z13', z14', hgx', hgy', hS'⟩ := store_pair z13 z14 (by omega) hgx hgy hS hle13 (.bool dx) (.slice Ax mx kx)
                rw [← hYn]
                clear hYn z13 z14 hgx hgy hS f0 f1 c0 c1
                have z13 := z13'
                have z14 := z14'
                have hgx := hgx'
                have hgy := hgy'
                have hS := hS'
                clear z13' z14' hgx' hgy' hS'
                refine hK.out _ _ ?_ (fun hHeld2 => ?_)
                · exact HS0.out _ hS
                replace hHeld := hHeld2
                clear hK K hHeld2
                (try dsimp only at hHeld)
                (try simp only [List.setIfInBounds_toArray, List.set_cons_zero, List.set_cons_succ])
                refine wpAnyH_ready (rs := [12]) (by kernel_rfl) (by simp) ?_
                refine ready_at 12 ⟨_, rfl⟩ (fun o ho K hK => ?_) ?_
                · simp only [List.getElem?_toArray, List.getElem?_cons_succ, List.getElem?_cons_zero, Option.some.injEq] at ho
                  subst ho
                  obtain ⟨f0, f1, c0, c1⟩ := z14.facts
                  go_simp
                  obtain ⟨y15, hYn, z14', z13', hgx', hgy', hS'⟩ := store_pair z14 z13 (by omega) hgx hgy hS hle14 (.bool dy) (.slice Ay my ky)
                  rw [← hYn]
                  clear hYn z13 z14 hgx hgy hS f0 f1 c0 c1
                  have z13 := z13'
                  have z14 := z14'
                  have hgx := hgx'
                  have hgy := hgy'
                  have hS := hS'
                  clear z13' z14' hgx' hgy' hS'
                  refine hK.out _ _ ?_ (fun hHeld2 => ?_)
                  · exact HS0.out _ hS
                  replace hHeld := hHeld2
                  clear hK K hHeld2
                  (try dsimp only at hHeld)
                  (try simp only [List.setIfInBounds_toArray, List.set_cons_zero, List.set_cons_succ])
                  refine take_at 13 (by kernel_rfl) (by kernel_rfl) (by kernel_rfl) (fun _ _ _ _ _ h => h) ⟨_, rfl⟩ (by assumption) (fun o ho => ?_)
                  simp only [List.getElem?_toArray, List.getElem?_cons_succ, List.getElem?_cons_zero, Option.some.injEq] at ho
                  subst ho
                  refine ⟨?_, ⟨by rfl, ?_⟩, ?_⟩
                  rotate_left
                  · intro w hSw
                    (try dsimp only at hSw)
                    (go_simp; try with_reducible rfl)
                  (try simp only [Act.put, List.setIfInBounds_toArray, List.set_cons_zero, List.set_cons_succ])
                  refine wpAnyH_done (by kernel_rfl) ?_ _
                  refine NoPanic.normal ?_
                  go_wp2_with fail
                  go_meet
                  case rel => exact ⟨b13, b14, rfl, rfl, rfl, At.of z13 HDx hgx, At.of z14 HDy hgy, hS⟩
                exact AllReadyH.nil
              exact AllReadyH.nil
            exact AllReadyH.nil
          refine ready_at 10 ⟨_, rfl⟩ (fun o ho K hK => ?_) ?_
          · simp only [List.getElem?_toArray, List.getElem?_cons_succ, List.getElem?_cons_zero, Option.some.injEq] at ho
            subst ho
            go_simp
            obtain ⟨y16, hYn, z14, hbk⟩ := zero_new y11
            rw [← hYn]
            obtain ⟨b14, hbn⟩ : ∃ b, b = y11.heap.size := ⟨_, rfl⟩
            have hle14 : W6.heap.size ≤ b14 := by have := hS.size; omega
            have hne : b13 < b14 := by have := z13.lt; omega
            rw [← hbn] at z14 ⊢
            replace hS := below_on hS hbk
            replace h_t1 := h_t1.below hbk
            replace z13 := z13.below hbk
            clear hYn hbn
            refine hK.out _ _ ?_ (fun hHeld2 => ?_)
            · exact HS0.out _ hS
            replace hHeld := hHeld2
            clear hK K hHeld2 hbk
            (try dsimp only at hHeld)
            (try simp only [List.setIfInBounds_toArray, List.set_cons_zero, List.set_cons_succ])
            refine wpAnyH_ready (rs := [4]) (by kernel_rfl) (by simp) ?_
            refine ready_at 4 ⟨_, rfl⟩ (fun o ho K hK => ?_) ?_
            · simp only [List.getElem?_toArray, List.getElem?_cons_succ, List.getElem?_cons_zero, Option.some.injEq] at ho
              subst ho
              go_simp
              refine (dm_i h_t1.iv (h_b.below hS) (by omega) (by omega) hz).mono ?_
              rintro e y17 ⟨vx, vy, rfl, ⟨hvx, hvy⟩, hbk⟩
              obtain ⟨dx, Ax, mx, kx, rfl, HDx, hgx⟩ := hvx.form
              obtain ⟨dy, Ay, my, ky, rfl, HDy, hgy⟩ := hvy.form
              clear hvx hvy h_t1
              replace hS := below_on hS hbk
              replace z13 := z13.below hbk
              replace z14 := z14.below hbk
              refine hK.out _ _ ?_ (fun hHeld2 => ?_)
              · exact HS0.out _ hS
              replace hHeld := hHeld2
              clear hK K hHeld2 hbk
              (try dsimp only at hHeld)
              (try simp only [List.setIfInBounds_toArray, List.set_cons_zero, List.set_cons_succ])
              refine take_at 5 (by kernel_rfl) (by kernel_rfl) (by kernel_rfl) (fun _ _ _ _ _ h => h) ⟨_, rfl⟩ (by assumption) (fun o ho => ?_)
              simp only [List.getElem?_toArray, List.getElem?_cons_succ, List.getElem?_cons_zero, Option.some.injEq] at ho
              subst ho
              refine ⟨?_, ⟨by rfl, ?_⟩, ?_⟩
              rotate_left
              · intro w hSw
                (try dsimp only at hSw)
                (go_simp; try with_reducible rfl)
              (try simp only [Act.put, List.setIfInBounds_toArray, List.set_cons_zero, List.set_cons_succ])
              refine take_at 6 (by kernel_rfl) (by kernel_rfl) (by kernel_rfl) (fun _ _ _ _ _ h => h) ⟨_, rfl⟩ (by assumption) (fun o ho => ?_)
              simp only [List.getElem?_toArray, List.getElem?_cons_succ, List.getElem?_cons_zero, Option.some.injEq] at ho
              subst ho
              refine ⟨?_, ⟨by rfl, ?_⟩, ?_⟩
              rotate_left
              · intro w hSw
                (try dsimp only at hSw)
                (go_simp; try with_reducible rfl)
              (try simp only [Act.put, List.setIfInBounds_toArray, List.set_cons_zero, List.set_cons_succ])
              refine take_at 7 (by kernel_rfl) (by kernel_rfl) (by kernel_rfl) (fun _ _ _ _ _ h => h) ⟨_, rfl⟩ (by assumption) (fun o ho => ?_)
              simp only [List.getElem?_toArray, List.getElem?_cons_succ, List.getElem?_cons_zero, Option.some.injEq] at ho
              subst ho
              refine ⟨?_, ⟨by rfl, ?_⟩, ?_⟩
              rotate_left
              · intro w hSw
                (try dsimp only at hSw)
                (go_simp; try with_reducible rfl)
              (try simp only [Act.put, List.setIfInBounds_toArray, List.set_cons_zero, List.set_cons_succ])
              refine take_at 8 (by kernel_rfl) (by kernel_rfl) (by kernel_rfl) (fun _ _ _ _ _ h => h) ⟨_, rfl⟩ (by assumption) (fun o ho => ?_)
              simp only [List.getElem?_toArray, List.getElem?_cons_succ, List.getElem?_cons_zero, Option.some.injEq] at ho
              subst ho
              refine ⟨?_, ⟨by rfl, ?_⟩, ?_⟩
              rotate_left
              · intro w hSw
                (try dsimp only at hSw)
                (go_simp; try with_reducible rfl)
              (try simp only [Act.put, List.setIfInBounds_toArray, List.set_cons_zero, List.set_cons_succ])
              refine wpAnyH_ready (rs := [11]) (by kernel_rfl) (by simp) ?_
              refine ready_at 11 ⟨_, rfl⟩ (fun o ho K hK => ?_) ?_
              · simp only [List.getElem?_toArray, List.getElem?_cons_succ, List.getElem?_cons_zero, Option.some.injEq] at ho
                subst ho
                obtain ⟨f0, f1, c0, c1⟩ := z13.facts
                go_simp
                obtain ⟨y18, hYn, z13', z14', hgx', hgy', hS'⟩ := store_pair z13 z14 (by omega) hgx hgy hS hle13 (.bool dx) (.slice Ax mx kx)
                rw [← hYn]
                clear hYn z13 z14 hgx hgy hS f0 f1 c0 c1
                have z13 := z13'
                have z14 := z14'
                have hgx := hgx'
                have hgy := hgy'
                have hS := hS'
                clear z13' z14' hgx' hgy' hS'
                refine hK.out _ _ ?_ (fun hHeld2 => ?_)
                · exact HS0.out _ hS
                replace hHeld := hHeld2
                clear hK K hHeld2
                (try dsimp only at hHeld)
                (try simp only [List.setIfInBounds_toArray, List.set_cons_zero, List.set_cons_succ])
                refine wpAnyH_ready (rs := [12]) (by kernel_rfl) (by simp) ?_
                refine ready_at 12 ⟨_, rfl⟩ (fun o ho K hK => ?_) ?_
                · simp only [List.getElem?_toArray, List.getElem?_cons_succ, List.getElem?_cons_zero, Option.some.injEq] at ho
                  subst ho
                  obtain ⟨f0, f1, c0, c1⟩ := z14.facts
                  go_simp
                  obtain ⟨y19, hYn, z14', z13', hgx', hgy', hS'⟩ := store_pair z14 z13 (by omega) hgx hgy hS hle14 (.bool dy) (.slice Ay my ky)
                  rw [← hYn]
                  clear hYn z13 z14 hgx hgy hS f0 f1 c0 c1
                  have z13 := z13'
                  have z14 := z14'
                  have hgx := hgx'
                  have hgy := hgy'
                  have hS := hS'
                  clear z13' z14' hgx' hgy' hS'
                  refine hK.out _ _ ?_ (fun hHeld2 => ?_)
                  · exact HS0.out _ hS
                  replace hHeld := hHeld2
                  clear hK K hHeld2
                  (try dsimp only at hHeld)
                  (try simp only [List.setIfInBounds_toArray, List.set_cons_zero, List.set_cons_succ])
                  refine take_at 13 (by kernel_rfl) (by kernel_rfl) (by kernel_rfl) (fun _ _ _ _ _ h => h) ⟨_, rfl⟩ (by assumption) (fun o ho => ?_)
                  simp only [List.getElem?_toArray, List.getElem?_cons_succ, List.getElem?_cons_zero, Option.some.injEq] at ho
                  subst ho
                  refine ⟨?_, ⟨by rfl, ?_⟩, ?_⟩
                  rotate_left
                  · intro w hSw
                    (try dsimp only at hSw)
                    (go_simp; try with_reducible rfl)
                  (try simp only [Act.put, List.setIfInBounds_toArray, List.set_cons_zero, List.set_cons_succ])
                  refine wpAnyH_done (by kernel_rfl) ?_ _
                  refine NoPanic.normal ?_
                  go_wp2_with fail
                  go_meet
                  case rel => exact ⟨b13, b14, rfl, rfl, rfl, At.of z13 HDx hgx, At.of z14 HDy hgy, hS⟩
                exact AllReadyH.nil
              exact AllReadyH.nil
            exact AllReadyH.nil
          exact AllReadyH.nil
        refine ready_at 10 ⟨_, rfl⟩ (fun o ho K hK => ?_) ?_
        · simp only [List.getElem?_toArray, List.getElem?_cons_succ, List.getElem?_cons_zero, Option.some.injEq] at ho
          subst ho
          go_simp
          obtain ⟨y20, hYn, z14, hbk⟩ := zero_new y1
          rw [← hYn]
          obtain ⟨b14, hbn⟩ : ∃ b, b = y1.heap.size := ⟨_, rfl⟩
          have hle14 : W6.heap.size ≤ b14 := by have := hS.size; omega
          rw [← hbn] at z14 ⊢
          replace hS := below_on hS hbk
          replace h_t1 := h_t1.below hbk
          clear hYn hbn
          refine hK.out _ _ ?_ (fun hHeld2 => ?_)
          · exact HS0.out _ hS
          replace hHeld := hHeld2
          clear hK K hHeld2 hbk
          (try dsimp only at hHeld)
          (try simp only [List.setIfInBounds_toArray, List.set_cons_zero, List.set_cons_succ])
          refine wpAnyH_ready (rs := [4, 9]) (by kernel_rfl) (by simp) ?_
          refine ready_at 4 ⟨_, rfl⟩ (fun o ho K hK => ?_) ?_
          · simp only [List.getElem?_toArray, List.getElem?_cons_succ, List.getElem?_cons_zero, Option.some.injEq] at ho
            subst ho
            go_simp
            refine (dm_i h_t1.iv (h_b.below hS) (by omega) (by omega) hz).mono ?_
            rintro e y21 ⟨vx, vy, rfl, ⟨hvx, hvy⟩, hbk⟩
            obtain ⟨dx, Ax, mx, kx, rfl, HDx, hgx⟩ := hvx.form
            obtain ⟨dy, Ay, my, ky, rfl, HDy, hgy⟩ := hvy.form
            clear hvx hvy h_t1
            replace hS := below_on hS hbk
            replace z14 := z14.below hbk
            refine hK.out _ _ ?_ (fun hHeld2 => ?_)
            · exact HS0.out _ hS
            replace hHeld := hHeld2
            clear hK K hHeld2 hbk
            (try dsimp only at hHeld)
            (try simp only [List.setIfInBounds_toArray, List.set_cons_zero, List.set_cons_succ])
            refine take_at 5 (by kernel_rfl) (by kernel_rfl) (by kernel_rfl) (fun _ _ _ _ _ h => h) ⟨_, rfl⟩ (by assumption) (fun o ho => ?_)
            simp only [List.getElem?_toArray, List.getElem?_cons_succ, List.getElem?_cons_zero, Option.some.injEq] at ho
            subst ho
            refine ⟨?_, ⟨by rfl, ?_⟩, ?_⟩
            rotate_left
            · intro w hSw
              (try dsimp only at hSw)
              (go_simp; try with_reducible rfl)
            (try simp only [Act.put, List.setIfInBounds_toArray, List.set_cons_zero, List.set_cons_succ])
            refine take_at 6 (by kernel_rfl) (by kernel_rfl) (by kernel_rfl) (fun _ _ _ _ _ h => h) ⟨_, rfl⟩ (by assumption) (fun o ho => ?_)
            simp only [List.getElem?_toArray, List.getElem?_cons_succ, List.getElem?_cons_zero, Option.some.injEq] at ho
            subst ho
            refine ⟨?_, ⟨by rfl, ?_⟩, ?_⟩
            rotate_left
            · intro w hSw
              (try dsimp only at hSw)
              (go_simp; try with_reducible rfl)
            (try simp only [Act.put, List.setIfInBounds_toArray, List.set_cons_zero, List.set_cons_succ])
            refine take_at 7 (by kernel_rfl) (by kernel_rfl) (by kernel_rfl) (fun _ _ _ _ _ h => h) ⟨_, rfl⟩ (by assumption) (fun o ho => ?_)
            simp only [List.getElem?_toArray, List.getElem?_cons_succ, List.getElem?_cons_zero, Option.some.injEq] at ho
            subst ho
            refine ⟨?_, ⟨by rfl, ?_⟩, ?_⟩
            rotate_left
            · intro w hSw
              (try dsimp only at hSw)
              (go_simp; try with_reducible rfl)
            (try simp only [Act.put, List.setIfInBounds_toArray, List.set_cons_zero, List.set_cons_succ])
            refine take_at 8 (by kernel_rfl) (by kernel_rfl) (by kernel_rfl) (fun _ _ _ _ _ h => h) ⟨_, rfl⟩ (by assumption) (fun o ho => ?_)
            simp only [List.getElem?_toArray, List.getElem?_cons_succ, List.getElem?_cons_zero, Option.some.injEq] at ho
            subst ho
            refine ⟨?_, ⟨by rfl, ?_⟩, ?_⟩
            rotate_left
            · intro w hSw
              (try dsimp only at hSw)
              (go_simp; try with_reducible rfl)
            (try simp only [Act.put, List.setIfInBounds_toArray, List.set_cons_zero, List.set_cons_succ])
            refine wpAnyH_ready (rs := [9]) (by kernel_rfl) (by simp) ?_
            refine ready_at 9 ⟨_, rfl⟩ (fun o ho K hK => ?_) ?_
            · simp only [List.getElem?_toArray, List.getElem?_cons_succ, List.getElem?_cons_zero, Option.some.injEq] at ho
              subst ho
              go_simp
              obtain ⟨y22, hYn, z13, hbk⟩ := zero_new y21
              rw [← hYn]
              obtain ⟨b13, hbn⟩ : ∃ b, b = y21.heap.size := ⟨_, rfl⟩
              have hle13 : W6.heap.size ≤ b13 := by have := hS.size; omega
              have hne : b14 < b13 := by have := z14.lt; omega
              rw [← hbn] at z13 ⊢
              replace hS := below_on hS hbk
              replace hgx := hgx.below hbk
              replace hgy := hgy.below hbk
              replace z14 := z14.below hbk
              clear hYn hbn
              refine hK.out _ _ ?_ (fun hHeld2 => ?_)
              · exact HS0.out _ hS
              replace hHeld := hHeld2
              clear hK K hHeld2 hbk
              (try dsimp only at hHeld)
              (try simp only [List.setIfInBounds_toArray, List.set_cons_zero, List.set_cons_succ])
              refine wpAnyH_ready (rs := [11]) (by kernel_rfl) (by simp) ?_
              refine ready_at 11 ⟨_, rfl⟩ (fun o ho K hK => ?_) ?_
              · simp only [List.getElem?_toArray, List.getElem?_cons_succ, List.getElem?_cons_zero, Option.some.injEq] at ho
                subst ho
                obtain ⟨f0, f1, c0, c1⟩ := z13.facts
                go_simp
                obtain ⟨y23, hYn, z13', z14', hgx', hgy', hS'⟩ := store_pair z13 z14 (by omega) hgx hgy hS hle13 (.bool dx) (.slice Ax mx kx)
                rw [← hYn]
                clear hYn z13 z14 hgx hgy hS f0 f1 c0 c1
                have z13 := z13'
                have z14 := z14'
                have hgx := hgx'
                have hgy := hgy'
                have hS := hS'
                clear z13' z14' hgx' hgy' hS'
                refine hK.out _ _ ?_ (fun hHeld2 => ?_)
                · exact HS0.out _ hS
                replace hHeld := hHeld2
                clear hK K hHeld2
                (try dsimp only at hHeld)
                (try simp only [List.setIfInBounds_toArray, List.set_cons_zero, List.set_cons_succ])
                refine wpAnyH_ready (rs := [12]) (by kernel_rfl) (by simp) ?_
                refine ready_at 12 ⟨_, rfl⟩ (fun o ho K hK => ?_) ?_
                · simp only [List.getElem?_toArray, List.getElem?_cons_succ, List.getElem?_cons_zero, Option.some.injEq] at ho
                  subst ho
                  obtain ⟨f0, f1, c0, c1⟩ := z14.facts
                  go_simp
                  obtain ⟨y24, hYn, z14', z13', hgx', hgy', hS'⟩ := store_pair z14 z13 (by omega) hgx hgy hS hle14 (.bool dy) (.slice Ay my ky)
                  rw [← hYn]
                  clear hYn z13 z14 hgx hgy hS f0 f1 c0 c1
                  have z13 := z13'
                  have z14 := z14'
                  have hgx := hgx'
                  have hgy := hgy'
                  have hS := hS'
                  clear z13' z14' hgx' hgy' hS'
                  refine hK.out _ _ ?_ (fun hHeld2 => ?_)
                  · exact HS0.out _ hS
                  replace hHeld := hHeld2
                  clear hK K hHeld2
                  (try dsimp only at hHeld)
                  (try simp only [List.setIfInBounds_toArray, List.set_cons_zero, List.set_cons_succ])
                  refine take_at 13 (by kernel_rfl) (by kernel_rfl) (by kernel_rfl) (fun _ _ _ _ _ h => h) ⟨_, rfl⟩ (by assumption) (fun o ho => ?_)
                  simp only [List.getElem?_toArray, List.getElem?_cons_succ, List.getElem?_cons_zero, Option.some.injEq] at ho
                  subst ho
                  refine ⟨?_, ⟨by rfl, ?_⟩, ?_⟩
                  rotate_left
                  · intro w hSw
                    (try dsimp only at hSw)
                    (go_simp; try with_reducible rfl)
                  (try simp only [Act.put, List.setIfInBounds_toArray, List.set_cons_zero, List.set_cons_succ])
                  refine wpAnyH_done (by kernel_rfl) ?_ _
                  refine NoPanic.normal ?_
                  go_wp2_with fail
                  go_meet
                  case rel => exact ⟨b13, b14, rfl, rfl, rfl, At.of z13 HDx hgx, At.of z14 HDy hgy, hS⟩
                exact AllReadyH.nil
              exact AllReadyH.nil
            exact AllReadyH.nil
          refine ready_at 9 ⟨_, rfl⟩ (fun o ho K hK => ?_) ?_
          · simp only [List.getElem?_toArray, List.getElem?_cons_succ, List.getElem?_cons_zero, Option.some.injEq] at ho
            subst ho
            go_simp
            obtain ⟨y25, hYn, z13, hbk⟩ := zero_new y20
            rw [← hYn]
            obtain ⟨b13, hbn⟩ : ∃ b, b = y20.heap.size := ⟨_, rfl⟩
            have hle13 : W6.heap.size ≤ b13 := by have := hS.size; omega
            have hne : b14 < b13 := by have := z14.lt; omega
            rw [← hbn] at z13 ⊢
            replace hS := below_on hS hbk
            replace h_t1 := h_t1.below hbk
            replace z14 := z14.below hbk
            clear hYn hbn
            refine hK.out _ _ ?_ (fun hHeld2 => ?_)
            · exact HS0.out _ hS
            replace hHeld := hHeld2
            clear hK K hHeld2 hbk
            (try dsimp only at hHeld)
            (try simp only [List.setIfInBounds_toArray, List.set_cons_zero, List.set_cons_succ])
            refine wpAnyH_ready (rs := [4]) (by kernel_rfl) (by simp) ?_
            refine ready_at 4 ⟨_, rfl⟩ (fun o ho K hK => ?_) ?_
            · simp only [List.getElem?_toArray, List.getElem?_cons_succ, List.getElem?_cons_zero, Option.some.injEq] at ho
              subst ho
              go_simp
              refine (dm_i h_t1.iv (h_b.below hS) (by omega) (by omega) hz).mono ?_
              rintro e y26 ⟨vx, vy, rfl, ⟨hvx, hvy⟩, hbk⟩
              obtain ⟨dx, Ax, mx, kx, rfl, HDx, hgx⟩ := hvx.form
              obtain ⟨dy, Ay, my, ky, rfl, HDy, hgy⟩ := hvy.form
              clear hvx hvy h_t1
              replace hS := below_on hS hbk
              replace z13 := z13.below hbk
              replace z14 := z14.below hbk
              refine hK.out _ _ ?_ (fun hHeld2 => ?_)
              · exact HS0.out _ hS
              replace hHeld := hHeld2
              clear hK K hHeld2 hbk
              (try dsimp only at hHeld)
              (try simp only [List.setIfInBounds_toArray, List.set_cons_zero, List.set_cons_succ])
              refine take_at 5 (by kernel_rfl) (by kernel_rfl) (by kernel_rfl) (fun _ _ _ _ _ h => h) ⟨_, rfl⟩ (by assumption) (fun o ho => ?_)
              simp only [List.getElem?_toArray, List.getElem?_cons_succ, List.getElem?_cons_zero, Option.some.injEq] at ho
              subst ho
              refine ⟨?_, ⟨by rfl, ?_⟩, ?_⟩
              rotate_left
              · intro w hSw
                (try dsimp only at hSw)
                (go_simp; try with_reducible rfl)
              (try simp only [Act.put, List.setIfInBounds_toArray, List.set_cons_zero, List.set_cons_succ])
              refine take_at 6 (by kernel_rfl) (by kernel_rfl) (by kernel_rfl) (fun _ _ _ _ _ h => h) ⟨_, rfl⟩ (by assumption) (fun o ho => ?_)
              simp only [List.getElem?_toArray, List.getElem?_cons_succ, List.getElem?_cons_zero, Option.some.injEq] at ho
              subst ho
              refine ⟨?_, ⟨by rfl, ?_⟩, ?_⟩
              rotate_left
              · intro w hSw
                (try dsimp only at hSw)
                (go_simp; try with_reducible rfl)
              (try simp only [Act.put, List.setIfInBounds_toArray, List.set_cons_zero, List.set_cons_succ])
              refine take_at 7 (by kernel_rfl) (by kernel_rfl) (by kernel_rfl) (fun _ _ _ _ _ h => h) ⟨_, rfl⟩ (by assumption) (fun o ho => ?_)
              simp only [List.getElem?_toArray, List.getElem?_cons_succ, List.getElem?_cons_zero, Option.some.injEq] at ho
              subst ho
              refine ⟨?_, ⟨by rfl, ?_⟩, ?_⟩
              rotate_left
              · intro w hSw
                (try dsimp only at hSw)
                (go_simp; try with_reducible rfl)
              (try simp only [Act.put, List.setIfInBounds_toArray, List.set_cons_zero, List.set_cons_succ])
              refine take_at 8 (by kernel_rfl) (by kernel_rfl) (by kernel_rfl) (fun _ _ _ _ _ h => h) ⟨_, rfl⟩ (by assumption) (fun o ho => ?_)
              simp only [List.getElem?_toArray, List.getElem?_cons_succ, List.getElem?_cons_zero, Option.some.injEq] at ho
              subst ho
              refine ⟨?_, ⟨by rfl, ?_⟩, ?_⟩
              rotate_left
              · intro w hSw
                (try dsimp only at hSw)
                (go_simp; try with_reducible rfl)
              (try simp only [Act.put, List.setIfInBounds_toArray, List.set_cons_zero, List.set_cons_succ])
              refine wpAnyH_ready (rs := [11]) (by kernel_rfl) (by simp) ?_
              refine ready_at 11 ⟨_, rfl⟩ (fun o ho K hK => ?_) ?_
              · simp only [List.getElem?_toArray, List.getElem?_cons_succ, List.getElem?_cons_zero, Option.some.injEq] at ho
                subst ho
                obtain ⟨f0, f1, c0, c1⟩ := z13.facts
                go_simp
                obtain ⟨y27, hYn, z13', z14', hgx', hgy', hS'⟩ := store_pair z13 z14 (by omega) hgx hgy hS hle13 (.bool dx) (.slice Ax mx kx)
                rw [← hYn]
                clear hYn z13 z14 hgx hgy hS f0 f1 c0 c1
                have z13 := z13'
                have z14 := z14'
                have hgx := hgx'
                have hgy := hgy'
                have hS := hS'
                clear z13' z14' hgx' hgy' hS'
                refine hK.out _ _ ?_ (fun hHeld2 => ?_)
                · exact HS0.out _ hS
                replace hHeld := hHeld2
                clear hK K hHeld2
                (try dsimp only at hHeld)
                (try simp only [List.setIfInBounds_toArray, List.set_cons_zero, List.set_cons_succ])
                refine wpAnyH_ready (rs := [12]) (by kernel_rfl) (by simp) ?_
                refine ready_at 12 ⟨_, rfl⟩ (fun o ho K hK => ?_) ?_
                · simp only [List.getElem?_toArray, List.getElem?_cons_succ, List.getElem?_cons_zero, Option.some.injEq] at ho
                  subst ho
                  obtain ⟨f0, f1, c0, c1⟩ := z14.facts
                  go_simp
                  obtain ⟨y28, hYn, z14', z13', hgx', hgy', hS'⟩ := store_pair z14 z13 (by omega) hgx hgy hS hle14 (.bool dy) (.slice Ay my ky)
                  rw [← hYn]
                  clear hYn z13 z14 hgx hgy hS f0 f1 c0 c1
                  have z13 := z13'
                  have z14 := z14'
                  have hgx := hgx'
                  have hgy := hgy'
                  have hS := hS'
                  clear z13' z14' hgx' hgy' hS'
                  refine hK.out _ _ ?_ (fun hHeld2 => ?_)
                  · exact HS0.out _ hS
                  replace hHeld := hHeld2
                  clear hK K hHeld2
                  (try dsimp only at hHeld)
                  (try simp only [List.setIfInBounds_toArray, List.set_cons_zero, List.set_cons_succ])
                  refine take_at 13 (by kernel_rfl) (by kernel_rfl) (by kernel_rfl) (fun _ _ _ _ _ h => h) ⟨_, rfl⟩ (by assumption) (fun o ho => ?_)
                  simp only [List.getElem?_toArray, List.getElem?_cons_succ, List.getElem?_cons_zero, Option.some.injEq] at ho
                  subst ho
                  refine ⟨?_, ⟨by rfl, ?_⟩, ?_⟩
                  rotate_left
                  · intro w hSw
                    (try dsimp only at hSw)
                    (go_simp; try with_reducible rfl)
                  (try simp only [Act.put, List.setIfInBounds_toArray, List.set_cons_zero, List.set_cons_succ])
                  refine wpAnyH_done (by kernel_rfl) ?_ _
                  refine NoPanic.normal ?_
                  go_wp2_with fail
                  go_meet
                  case rel => exact ⟨b13, b14, rfl, rfl, rfl, At.of z13 HDx hgx, At.of z14 HDy hgy, hS⟩
                exact AllReadyH.nil
              exact AllReadyH.nil
            exact AllReadyH.nil
          exact AllReadyH.nil
        exact AllReadyH.nil
      refine ready_at 9 ⟨_, rfl⟩ (fun o ho K hK => ?_) ?_
      · simp only [List.getElem?_toArray, List.getElem?_cons_succ, List.getElem?_cons_zero, Option.some.injEq] at ho
        subst ho
        go_simp
        obtain ⟨y29, hYn, z13, hbk⟩ := zero_new X0
        rw [← hYn]
        obtain ⟨b13, hbn⟩ : ∃ b, b = X0.heap.size := ⟨_, rfl⟩
        have hle13 : W6.heap.size ≤ b13 := by have := hS.size; omega
        rw [← hbn] at z13 ⊢
        replace hS := below_on hS hbk
        clear hYn hbn
        refine hK.out _ _ ?_ (fun hHeld2 => ?_)
        · exact HS0.out _ hS
        replace hHeld := hHeld2
        clear hK K hHeld2 hbk
        (try dsimp only at hHeld)
        (try simp only [List.setIfInBounds_toArray, List.set_cons_zero, List.set_cons_succ])
        refine wpAnyH_ready (rs := [2, 10]) (by kernel_rfl) (by simp) ?_
        refine ready_at 2 ⟨_, rfl⟩ (fun o ho K hK => ?_) ?_
        · simp only [List.getElem?_toArray, List.getElem?_cons_succ, List.getElem?_cons_zero, Option.some.injEq] at ho
          subst ho
          go_simp
          refine (add_i (h_a.below hS) (h_b.below hS) (by omega)).mono ?_
          rintro e y30 ⟨t1, rfl, h_t1, hbk⟩
          replace hS := below_on hS hbk
          replace z13 := z13.below hbk
          refine hK.out _ _ ?_ (fun hHeld2 => ?_)
          · exact HS0.out _ hS
          replace hHeld := hHeld2
          clear hK K hHeld2 hbk
          (try dsimp only at hHeld)
          (try simp only [List.setIfInBounds_toArray, List.set_cons_zero, List.set_cons_succ])
          refine wpAnyH_ready (rs := [4, 10]) (by kernel_rfl) (by simp) ?_
          refine ready_at 4 ⟨_, rfl⟩ (fun o ho K hK => ?_) ?_
          · simp only [List.getElem?_toArray, List.getElem?_cons_succ, List.getElem?_cons_zero, Option.some.injEq] at ho
            subst ho
            go_simp
            refine (dm_i h_t1.iv (h_b.below hS) (by omega) (by omega) hz).mono ?_
            rintro e y31 ⟨vx, vy, rfl, ⟨hvx, hvy⟩, hbk⟩
            obtain ⟨dx, Ax, mx, kx, rfl, HDx, hgx⟩ := hvx.form
            obtain ⟨dy, Ay, my, ky, rfl, HDy, hgy⟩ := hvy.form
            clear hvx hvy h_t1
            replace hS := below_on hS hbk
            replace z13 := z13.below hbk
            refine hK.out _ _ ?_ (fun hHeld2 => ?_)
            · exact HS0.out _ hS
            replace hHeld := hHeld2
            clear hK K hHeld2 hbk
            (try dsimp only at hHeld)
            (try simp only [List.setIfInBounds_toArray, List.set_cons_zero, List.set_cons_succ])
            refine take_at 5 (by kernel_rfl) (by kernel_rfl) (by kernel_rfl) (fun _ _ _ _ _ h => h) ⟨_, rfl⟩ (by assumption) (fun o ho => ?_)
            simp only [List.getElem?_toArray, List.getElem?_cons_succ, List.getElem?_cons_zero, Option.some.injEq] at ho
            subst ho
            refine ⟨?_, ⟨by rfl, ?_⟩, ?_⟩
            rotate_left
            · intro w hSw
              (try dsimp only at hSw)
              (go_simp; try with_reducible rfl)
            (try simp only [Act.put, List.setIfInBounds_toArray, List.set_cons_zero, List.set_cons_succ])
            refine take_at 6 (by kernel_rfl) (by kernel_rfl) (by kernel_rfl) (fun _ _ _ _ _ h => h) ⟨_, rfl⟩ (by assumption) (fun o ho => ?_)
            simp only [List.getElem?_toArray, List.getElem?_cons_succ, List.getElem?_cons_zero, Option.some.injEq] at ho
            subst ho
            refine ⟨?_, ⟨by rfl, ?_⟩, ?_⟩
            rotate_left
            · intro w hSw
              (try dsimp only at hSw)
              (go_simp; try with_reducible rfl)
            (try simp only [Act.put, List.setIfInBounds_toArray, List.set_cons_zero, List.set_cons_succ])
            refine take_at 7 (by kernel_rfl) (by kernel_rfl) (by kernel_rfl) (fun _ _ _ _ _ h => h) ⟨_, rfl⟩ (by assumption) (fun o ho => ?_)
            simp only [List.getElem?_toArray, List.getElem?_cons_succ, List.getElem?_cons_zero, Option.some.injEq] at ho
            subst ho
            refine ⟨?_, ⟨by rfl, ?_⟩, ?_⟩
            rotate_left
            · intro w hSw
              (try dsimp only at hSw)
              (go_simp; try with_reducible rfl)
            (try simp only [Act.put, List.setIfInBounds_toArray, List.set_cons_zero, List.set_cons_succ])
            refine take_at 8 (by kernel_rfl) (by kernel_rfl) (by kernel_rfl) (fun _ _ _ _ _ h => h) ⟨_, rfl⟩ (by assumption) (fun o ho => ?_)
            simp only [List.getElem?_toArray, List.getElem?_cons_succ, List.getElem?_cons_zero, Option.some.injEq] at ho
            subst ho
            refine ⟨?_, ⟨by rfl, ?_⟩, ?_⟩
            rotate_left
            · intro w hSw
              (try dsimp only at hSw)
              (go_simp; try with_reducible rfl)
            (try simp only [Act.put, List.setIfInBounds_toArray, List.set_cons_zero, List.set_cons_succ])
            refine wpAnyH_ready (rs := [10]) (by kernel_rfl) (by simp) ?_
            refine ready_at 10 ⟨_, rfl⟩ (fun o ho K hK => ?_) ?_
            · simp only [List.getElem?_toArray, List.getElem?_cons_succ, List.getElem?_cons_zero, Option.some.injEq] at ho
              subst ho
              go_simp
              obtain ⟨y32, hYn, z14, hbk⟩ := zero_new y31
              rw [← hYn]
              obtain ⟨b14, hbn⟩ : ∃ b, b = y31.heap.size := ⟨_, rfl⟩
              have hle14 : W6.heap.size ≤ b14 := by have := hS.size; omega
              have hne : b13 < b14 := by have := z13.lt; omega
              rw [← hbn] at z14 ⊢
              replace hS := below_on hS hbk
              replace hgx := hgx.below hbk
              replace hgy := hgy.below hbk
              replace z13 := z13.below hbk
              clear hYn hbn
              refine hK.out _ _ ?_ (fun hHeld2 => ?_)
              · exact HS0.out _ hS
              replace hHeld := hHeld2
              clear hK K hHeld2 hbk
              (try dsimp only at hHeld)
              (try simp only [List.setIfInBounds_toArray, List.set_cons_zero, List.set_cons_succ])
              refine wpAnyH_ready (rs := [11]) (by kernel_rfl) (by simp) ?_
              refine ready_at 11 ⟨_, rfl⟩ (fun o ho K hK => ?_) ?_
              · simp only [List.getElem?_toArray, List.getElem?_cons_succ, List.getElem?_cons_zero, Option.some.injEq] at ho
                subst ho
                obtain ⟨f0, f1, c0, c1⟩ := z13.facts
                go_simp
                obtain ⟨y33, hYn, z13', z14', hgx', hgy', hS'⟩ := store_pair z13 z14 (by omega) hgx hgy hS hle13 (.bool dx) (.slice Ax mx kx)
                rw [← hYn]
                clear hYn z13 z14 hgx hgy hS f0 f1 c0 c1
                have z13 := z13'
                have z14 := z14'
                have hgx := hgx'
                have hgy := hgy'
                have hS := hS'
                clear z13' z14' hgx' hgy' hS'
                refine hK.out _ _ ?_ (fun hHeld2 => ?_)
                · exact HS0.out _ hS
                replace hHeld := hHeld2
                clear hK K hHeld2
                (try dsimp only at hHeld)
                (try simp only [List.setIfInBounds_toArray, List.set_cons_zero, List.set_cons_succ])
                refine wpAnyH_ready (rs := [12]) (by kernel_rfl) (by simp) ?_
                refine ready_at 12 ⟨_, rfl⟩ (fun o ho K hK => ?_) ?_
                · simp only [List.getElem?_toArray, List.getElem?_cons_succ, List.getElem?_cons_zero, Option.some.injEq] at ho
                  subst ho
                  obtain ⟨f0, f1, c0, c1⟩ := z14.facts
                  go_simp
                  obtain ⟨y34, hYn, z14', z13', hgx', hgy', hS'⟩ := store_pair z14 z13 (by omega) hgx hgy hS hle14 (.bool dy) (.slice Ay my ky)
                  rw [← hYn]
                  clear hYn z13 z14 hgx hgy hS f0 f1 c0 c1
                  have z13 := z13'
                  have z14 := z14'
                  have hgx := hgx'
                  have hgy := hgy'
                  have hS := hS'
                  clear z13' z14' hgx' hgy' hS'
                  refine hK.out _ _ ?_ (fun hHeld2 => ?_)
                  · exact HS0.out _ hS
                  replace hHeld := hHeld2
                  clear hK K hHeld2
                  (try dsimp only at hHeld)
                  (try simp only [List.setIfInBounds_toArray, List.set_cons_zero, List.set_cons_succ])
                  refine take_at 13 (by kernel_rfl) (by kernel_rfl) (by kernel_rfl) (fun _ _ _ _ _ h => h) ⟨_, rfl⟩ (by assumption) (fun o ho => ?_)
                  simp only [List.getElem?_toArray, List.getElem?_cons_succ, List.getElem?_cons_zero, Option.some.injEq] at ho
                  subst ho
                  refine ⟨?_, ⟨by rfl, ?_⟩, ?_⟩
                  rotate_left
                  · intro w hSw
                    (try dsimp only at hSw)
                    (go_simp; try with_reducible rfl)
                  (try simp only [Act.put, List.setIfInBounds_toArray, List.set_cons_zero, List.set_cons_succ])
                  refine wpAnyH_done (by kernel_rfl) ?_ _
                  refine NoPanic.normal ?_
                  go_wp2_with fail
                  go_meet
                  case rel => exact ⟨b13, b14, rfl, rfl, rfl, At.of z13 HDx hgx, At.of z14 HDy hgy, hS⟩
                exact AllReadyH.nil
              exact AllReadyH.nil
            exact AllReadyH.nil
          refine ready_at 10 ⟨_, rfl⟩ (fun o ho K hK => ?_) ?_
          · simp only [List.getElem?_toArray, List.getElem?_cons_succ, List.getElem?_cons_zero, Option.some.injEq] at ho
            subst ho
            go_simp
            obtain ⟨y35, hYn, z14, hbk⟩ := zero_new y30
            rw [← hYn]
            obtain ⟨b14, hbn⟩ : ∃ b, b = y30.heap.size := ⟨_, rfl⟩
            have hle14 : W6.heap.size ≤ b14 := by have := hS.size; omega
            have hne : b13 < b14 := by have := z13.lt; omega
            rw [← hbn] at z14 ⊢
            replace hS := below_on hS hbk
            replace h_t1 := h_t1.below hbk
            replace z13 := z13.below hbk
            clear hYn hbn
            refine hK.out _ _ ?_ (fun hHeld2 => ?_)
            · exact HS0.out _ hS
            replace hHeld := hHeld2
            clear hK K hHeld2 hbk
            (try dsimp only at hHeld)
            (try simp only [List.setIfInBounds_toArray, List.set_cons_zero, List.set_cons_succ])
            refine wpAnyH_ready (rs := [4]) (by kernel_rfl) (by simp) ?_
            refine ready_at 4 ⟨_, rfl⟩ (fun o ho K hK => ?_) ?_
            · simp only [List.getElem?_toArray, List.getElem?_cons_succ, List.getElem?_cons_zero, Option.some.injEq] at ho
              subst ho
              go_simp
              refine (dm_i h_t1.iv (h_b.below hS) (by omega) (by omega) hz).mono ?_
              rintro e y36 ⟨vx, vy, rfl, ⟨hvx, hvy⟩, hbk⟩
              obtain ⟨dx, Ax, mx, kx, rfl, HDx, hgx⟩ := hvx.form
              obtain ⟨dy, Ay, my, ky, rfl, HDy, hgy⟩ := hvy.form
              clear hvx hvy h_t1
              replace hS := below_on hS hbk
              replace z13 := z13.below hbk
              replace z14 := z14.below hbk
              refine hK.out _ _ ?_ (fun hHeld2 => ?_)
              · exact HS0.out _ hS
              replace hHeld := hHeld2
              clear hK K hHeld2 hbk
              (try dsimp only at hHeld)
              (try simp only [List.setIfInBounds_toArray, List.set_cons_zero, List.set_cons_succ])
              refine take_at 5 (by kernel_rfl) (by kernel_rfl) (by kernel_rfl) (fun _ _ _ _ _ h => h) ⟨_, rfl⟩ (by assumption) (fun o ho => ?_)
              simp only [List.getElem?_toArray, List.getElem?_cons_succ, List.getElem?_cons_zero, Option.some.injEq] at ho
              subst ho
              refine ⟨?_, ⟨by rfl, ?_⟩, ?_⟩
              rotate_left
              · intro w hSw
                (try dsimp only at hSw)
                (go_simp; try with_reducible rfl)
              (try simp only [Act.put, List.setIfInBounds_toArray, List.set_cons_zero, List.set_cons_succ])
              refine take_at 6 (by kernel_rfl) (by kernel_rfl) (by kernel_rfl) (fun _ _ _ _ _ h => h) ⟨_, rfl⟩ (by assumption) (fun o ho => ?_)
              simp only [List.getElem?_toArray, List.getElem?_cons_succ, List.getElem?_cons_zero, Option.some.injEq] at ho
              subst ho
              refine ⟨?_, ⟨by rfl, ?_⟩, ?_⟩
              rotate_left
              · intro w hSw
                (try dsimp only at hSw)
                (go_simp; try with_reducible rfl)
              (try simp only [Act.put, List.setIfInBounds_toArray, List.set_cons_zero, List.set_cons_succ])
              refine take_at 7 (by kernel_rfl) (by kernel_rfl) (by kernel_rfl) (fun _ _ _ _ _ h => h) ⟨_, rfl⟩ (by assumption) (fun o ho => ?_)
              simp only [List.getElem?_toArray, List.getElem?_cons_succ, List.getElem?_cons_zero, Option.some.injEq] at ho
              subst ho
              refine ⟨?_, ⟨by rfl, ?_⟩, ?_⟩
              rotate_left
              · intro w hSw
                (try dsimp only at hSw)
                (go_simp; try with_reducible rfl)
              (try simp only [Act.put, List.setIfInBounds_toArray, List.set_cons_zero, List.set_cons_succ])
              refine take_at 8 (by kernel_rfl) (by kernel_rfl) (by kernel_rfl) (fun _ _ _ _ _ h => h) ⟨_, rfl⟩ (by assumption) (fun o ho => ?_)
              simp only [List.getElem?_toArray, List.getElem?_cons_succ, List.getElem?_cons_zero, Option.some.injEq] at ho
              subst ho
              refine ⟨?_, ⟨by rfl, ?_⟩, ?_⟩
              rotate_left
              · intro w hSw
                (try dsimp only at hSw)
                (go_simp; try with_reducible rfl)
              (try simp only [Act.put, List.setIfInBounds_toArray, List.set_cons_zero, List.set_cons_succ])
              refine wpAnyH_ready (rs := [11]) (by kernel_rfl) (by simp) ?_
              refine ready_at 11 ⟨_, rfl⟩ (fun o ho K hK => ?_) ?_
              · simp only [List.getElem?_toArray, List.getElem?_cons_succ, List.getElem?_cons_zero, Option.some.injEq] at ho
                subst ho
                obtain ⟨f0, f1, c0, c1⟩ := z13.facts
                go_simp
                obtain ⟨y37, hYn, z13', z14', hgx', hgy', hS'⟩ := store_pair z13 z14 (by omega) hgx hgy hS hle13 (.bool dx) (.slice Ax mx kx)
                rw [← hYn]
                clear hYn z13 z14 hgx hgy hS f0 f1 c0 c1
                have z13 := z13'
                have z14 := z14'
                have hgx := hgx'
                have hgy := hgy'
                have hS := hS'
                clear z13' z14' hgx' hgy' hS'
                refine hK.out _ _ ?_ (fun hHeld2 => ?_)
                · exact HS0.out _ hS
                replace hHeld := hHeld2
                clear hK K hHeld2
                (try dsimp only at hHeld)
                (try simp only [List.setIfInBounds_toArray, List.set_cons_zero, List.set_cons_succ])
                refine wpAnyH_ready (rs := [12]) (by kernel_rfl) (by simp) ?_
                refine ready_at 12 ⟨_, rfl⟩ (fun o ho K hK => ?_) ?_
                · simp only [List.getElem?_toArray, List.getElem?_cons_succ, List.getElem?_cons_zero, Option.some.injEq] at ho
                  subst ho
                  obtain ⟨f0, f1, c0, c1⟩ := z14.facts
                  go_simp
                  obtain ⟨y38, hYn, z14', z13', hgx', hgy', hS'⟩ := store_pair z14 z13 (by omega) hgx hgy hS hle14 (.bool dy) (.slice Ay my ky)
                  rw [← hYn]
                  clear hYn z13 z14 hgx hgy hS f0 f1 c0 c1
                  have z13 := z13'
                  have z14 := z14'
                  have hgx := hgx'
                  have hgy := hgy'
                  have hS := hS'
                  clear z13' z14' hgx' hgy' hS'
                  refine hK.out _ _ ?_ (fun hHeld2 => ?_)
                  · exact HS0.out _ hS
                  replace hHeld := hHeld2
                  clear hK K hHeld2
                  (try dsimp only at hHeld)
                  (try simp only [List.setIfInBounds_toArray, List.set_cons_zero, List.set_cons_succ])
                  refine take_at 13 (by kernel_rfl) (by kernel_rfl) (by kernel_rfl) (fun _ _ _ _ _ h => h) ⟨_, rfl⟩ (by assumption) (fun o ho => ?_)
                  simp only [List.getElem?_toArray, List.getElem?_cons_succ, List.getElem?_cons_zero, Option.some.injEq] at ho
                  subst ho
                  refine ⟨?_, ⟨by rfl, ?_⟩, ?_⟩
                  rotate_left
                  · intro w hSw
                    (try dsimp only at hSw)
                    (go_simp; try with_reducible rfl)
                  (try simp only [Act.put, List.setIfInBounds_toArray, List.set_cons_zero, List.set_cons_succ])
                  refine wpAnyH_done (by kernel_rfl) ?_ _
                  refine NoPanic.normal ?_
                  go_wp2_with fail
                  go_meet
                  case rel => exact ⟨b13, b14, rfl, rfl, rfl, At.of z13 HDx hgx, At.of z14 HDy hgy, hS⟩
                exact AllReadyH.nil
              exact AllReadyH.nil
            exact AllReadyH.nil
          exact AllReadyH.nil
        refine ready_at 10 ⟨_, rfl⟩ (fun o ho K hK => ?_) ?_
        · simp only [List.getElem?_toArray, List.getElem?_cons_succ, List.getElem?_cons_zero, Option.some.injEq] at ho
          subst ho
          go_simp
          obtain ⟨y39, hYn, z14, hbk⟩ := zero_new y29
          rw [← hYn]
          obtain ⟨b14, hbn⟩ : ∃ b, b = y29.heap.size := ⟨_, rfl⟩
          have hle14 : W6.heap.size ≤ b14 := by have := hS.size; omega
          have hne : b13 < b14 := by have := z13.lt; omega
          rw [← hbn] at z14 ⊢
          replace hS := below_on hS hbk
          replace z13 := z13.below hbk
          clear hYn hbn
          refine hK.out _ _ ?_ (fun hHeld2 => ?_)
          · exact HS0.out _ hS
          replace hHeld := hHeld2
          clear hK K hHeld2 hbk
          (try dsimp only at hHeld)
          (try simp only [List.setIfInBounds_toArray, List.set_cons_zero, List.set_cons_succ])
          refine wpAnyH_ready (rs := [2]) (by kernel_rfl) (by simp) ?_
          refine ready_at 2 ⟨_, rfl⟩ (fun o ho K hK => ?_) ?_
          · simp only [List.getElem?_toArray, List.getElem?_cons_succ, List.getElem?_cons_zero, Option.some.injEq] at ho
            subst ho
            go_simp
            refine (add_i (h_a.below hS) (h_b.below hS) (by omega)).mono ?_
            rintro e y40 ⟨t1, rfl, h_t1, hbk⟩
            replace hS := below_on hS hbk
            replace z13 := z13.below hbk
            replace z14 := z14.below hbk
            refine hK.out _ _ ?_ (fun hHeld2 => ?_)
            · exact HS0.out _ hS
            replace hHeld := hHeld2
            clear hK K hHeld2 hbk
            (try dsimp only at hHeld)
            (try simp only [List.setIfInBounds_toArray, List.set_cons_zero, List.set_cons_succ])
            refine wpAnyH_ready (rs := [4]) (by kernel_rfl) (by simp) ?_
            refine ready_at 4 ⟨_, rfl⟩ (fun o ho K hK => ?_) ?_
            · simp only [List.getElem?_toArray, List.getElem?_cons_succ, List.getElem?_cons_zero, Option.some.injEq] at ho
              subst ho
              go_simp
              refine (dm_i h_t1.iv (h_b.below hS) (by omega) (by omega) hz).mono ?_
              rintro e y41 ⟨vx, vy, rfl, ⟨hvx, hvy⟩, hbk⟩
              obtain ⟨dx, Ax, mx, kx, rfl, HDx, hgx⟩ := hvx.form
              obtain ⟨dy, Ay, my, ky, rfl, HDy, hgy⟩ := hvy.form
              clear hvx hvy h_t1
              replace hS := below_on hS hbk
              replace z13 := z13.below hbk
              replace z14 := z14.below hbk
              refine hK.out _ _ ?_ (fun hHeld2 => ?_)
              · exact HS0.out _ hS
              replace hHeld := hHeld2
              clear hK K hHeld2 hbk
              (try dsimp only at hHeld)
              (try simp only [List.setIfInBounds_toArray, List.set_cons_zero, List.set_cons_succ])
              refine take_at 5 (by kernel_rfl) (by kernel_rfl) (by kernel_rfl) (fun _ _ _ _ _ h => h) ⟨_, rfl⟩ (by assumption) (fun o ho => ?_)
              simp only [List.getElem?_toArray, List.getElem?_cons_succ, List.getElem?_cons_zero, Option.some.injEq] at ho
              subst ho
              refine ⟨?_, ⟨by rfl, ?_⟩, ?_⟩
              rotate_left
              · intro w hSw
                (try dsimp only at hSw)
                (go_simp; try with_reducible rfl)
              (try simp only [Act.put, List.setIfInBounds_toArray, List.set_cons_zero, List.set_cons_succ])
              refine take_at 6 (by kernel_rfl) (by kernel_rfl) (by kernel_rfl) (fun _ _ _ _ _ h => h) ⟨_, rfl⟩ (by assumption) (fun o ho => ?_)
              simp only [List.getElem?_toArray, List.getElem?_cons_succ, List.getElem?_cons_zero, Option.some.injEq] at ho
              subst ho
              refine ⟨?_, ⟨by rfl, ?_⟩, ?_⟩
              rotate_left
              · intro w hSw
                (try dsimp only at hSw)
                (go_simp; try with_reducible rfl)
              (try simp only [Act.put, List.setIfInBounds_toArray, List.set_cons_zero, List.set_cons_succ])
              refine take_at 7 (by kernel_rfl) (by kernel_rfl) (by kernel_rfl) (fun _ _ _ _ _ h => h) ⟨_, rfl⟩ (by assumption) (fun o ho => ?_)
              simp only [List.getElem?_toArray, List.getElem?_cons_succ, List.getElem?_cons_zero, Option.some.injEq] at ho
              subst ho
              refine ⟨?_, ⟨by rfl, ?_⟩, ?_⟩
              rotate_left
              · intro w hSw
                (try dsimp only at hSw)
                (go_simp; try with_reducible rfl)
              (try simp only [Act.put, List.setIfInBounds_toArray, List.set_cons_zero, List.set_cons_succ])
              refine take_at 8 (by kernel_rfl) (by kernel_rfl) (by kernel_rfl) (fun _ _ _ _ _ h => h) ⟨_, rfl⟩ (by assumption) (fun o ho => ?_)
              simp only [List.getElem?_toArray, List.getElem?_cons_succ, List.getElem?_cons_zero, Option.some.injEq] at ho
              subst ho
              refine ⟨?_, ⟨by rfl, ?_⟩, ?_⟩
              rotate_left
              · intro w hSw
                (try dsimp only at hSw)
                (go_simp; try with_reducible rfl)
              (try simp only [Act.put, List.setIfInBounds_toArray, List.set_cons_zero, List.set_cons_succ])
              refine wpAnyH_ready (rs := [11]) (by kernel_rfl) (by simp) ?_
              refine ready_at 11 ⟨_, rfl⟩ (fun o ho K hK => ?_) ?_
              · simp only [List.getElem?_toArray, List.getElem?_cons_succ, List.getElem?_cons_zero, Option.some.injEq] at ho
                subst ho
                obtain ⟨f0, f1, c0, c1⟩ := z13.facts
                go_simp
                obtain ⟨y42, hYn, z13', z14', hgx', hgy', hS'⟩ := store_pair z13 z14 (by omega) hgx hgy hS hle13 (.bool dx) (.slice Ax mx kx)
                rw [← hYn]
                clear hYn z13 z14 hgx hgy hS f0 f1 c0 c1
                have z13 := z13'
                have z14 := z14'
                have hgx := hgx'
                have hgy := hgy'
                have hS := hS'
                clear z13' z14' hgx' hgy' hS'
                refine hK.out _ _ ?_ (fun hHeld2 => ?_)
                · exact HS0.out _ hS
                replace hHeld := hHeld2
                clear hK K hHeld2
                (try dsimp only at hHeld)
                (try simp only [List.setIfInBounds_toArray, List.set_cons_zero, List.set_cons_succ])
                refine wpAnyH_ready (rs := [12]) (by kernel_rfl) (by simp) ?_
                refine ready_at 12 ⟨_, rfl⟩ (fun o ho K hK => ?_) ?_
                · simp only [List.getElem?_toArray, List.getElem?_cons_succ, List.getElem?_cons_zero, Option.some.injEq] at ho
                  subst ho
                  obtain ⟨f0, f1, c0, c1⟩ := z14.facts
                  go_simp
                  obtain ⟨y43, hYn, z14', z13', hgx', hgy', hS'⟩ := store_pair z14 z13 (by omega) hgx hgy hS hle14 (.bool dy) (.slice Ay my ky)
                  rw [← hYn]
                  clear hYn z13 z14 hgx hgy hS f0 f1 c0 c1
                  have z13 := z13'
                  have z14 := z14'
                  have hgx := hgx'
                  have hgy := hgy'
                  have hS := hS'
                  clear z13' z14' hgx' hgy' hS'
                  refine hK.out _ _ ?_ (fun hHeld2 => ?_)
                  · exact HS0.out _ hS
                  replace hHeld := hHeld2
                  clear hK K hHeld2
                  (try dsimp only at hHeld)
                  (try simp only [List.setIfInBounds_toArray, List.set_cons_zero, List.set_cons_succ])
                  refine take_at 13 (by kernel_rfl) (by kernel_rfl) (by kernel_rfl) (fun _ _ _ _ _ h => h) ⟨_, rfl⟩ (by assumption) (fun o ho => ?_)
                  simp only [List.getElem?_toArray, List.getElem?_cons_succ, List.getElem?_cons_zero, Option.some.injEq] at ho
                  subst ho
                  refine ⟨?_, ⟨by rfl, ?_⟩, ?_⟩
                  rotate_left
                  · intro w hSw
                    (try dsimp only at hSw)
                    (go_simp; try with_reducible rfl)
                  (try simp only [Act.put, List.setIfInBounds_toArray, List.set_cons_zero, List.set_cons_succ])
                  refine wpAnyH_done (by kernel_rfl) ?_ _
                  refine NoPanic.normal ?_
                  go_wp2_with fail
                  go_meet
                  case rel => exact ⟨b13, b14, rfl, rfl, rfl, At.of z13 HDx hgx, At.of z14 HDy hgy, hS⟩
                exact AllReadyH.nil
              exact AllReadyH.nil
            exact AllReadyH.nil
          exact AllReadyH.nil
        exact AllReadyH.nil
      refine ready_at 10 ⟨_, rfl⟩ (fun o ho K hK => ?_) ?_
      · simp only [List.getElem?_toArray, List.getElem?_cons_succ, List.getElem?_cons_zero, Option.some.injEq] at ho
        subst ho
        go_simp
        obtain ⟨y44, hYn, z14, hbk⟩ := zero_new X0
        rw [← hYn]
        obtain ⟨b14, hbn⟩ : ∃ b, b = X0.heap.size := ⟨_, rfl⟩
        have hle14 : W6.heap.size ≤ b14 := by have := hS.size; omega
        rw [← hbn] at z14 ⊢
        replace hS := below_on hS hbk
        clear hYn hbn
        refine hK.out _ _ ?_ (fun hHeld2 => ?_)
        · exact HS0.out _ hS
        replace hHeld := hHeld2
        clear hK K hHeld2 hbk
        (try dsimp only at hHeld)
        (try simp only [List.setIfInBounds_toArray, List.set_cons_zero, List.set_cons_succ])
        refine wpAnyH_ready (rs := [2, 9]) (by kernel_rfl) (by simp) ?_
        refine ready_at 2 ⟨_, rfl⟩ (fun o ho K hK => ?_) ?_
        · simp only [List.getElem?_toArray, List.getElem?_cons_succ, List.getElem?_cons_zero, Option.some.injEq] at ho
          subst ho
          go_simp
          refine (add_i (h_a.below hS) (h_b.below hS) (by omega)).mono ?_
          rintro e y45 ⟨t1, rfl, h_t1, hbk⟩
          replace hS := below_on hS hbk
          replace z14 := z14.below hbk
          refine hK.out _ _ ?_ (fun hHeld2 => ?_)
          · exact HS0.out _ hS
          replace hHeld := hHeld2
          clear hK K hHeld2 hbk
          (try dsimp only at hHeld)
          (try simp only [List.setIfInBounds_toArray, List.set_cons_zero, List.set_cons_succ])
          refine wpAnyH_ready (rs := [4, 9]) (by kernel_rfl) (by simp) ?_
          refine ready_at 4 ⟨_, rfl⟩ (fun o ho K hK => ?_) ?_
          · simp only [List.getElem?_toArray, List.getElem?_cons_succ, List.getElem?_cons_zero, Option.some.injEq] at ho
            subst ho
            go_simp
            refine (dm_i h_t1.iv (h_b.below hS) (by omega) (by omega) hz).mono ?_
            rintro e y46 ⟨vx, vy, rfl, ⟨hvx, hvy⟩, hbk⟩
            obtain ⟨dx, Ax, mx, kx, rfl, HDx, hgx⟩ := hvx.form
            obtain ⟨dy, Ay, my, ky, rfl, HDy, hgy⟩ := hvy.form
            clear hvx hvy h_t1
            replace hS := below_on hS hbk
            replace z14 := z14.below hbk
            refine hK.out _ _ ?_ (fun hHeld2 => ?_)
            · exact HS0.out _ hS
            replace hHeld := hHeld2
            clear hK K hHeld2 hbk
            (try dsimp only at hHeld)
            (try simp only [List.setIfInBounds_toArray, List.set_cons_zero, List.set_cons_succ])
            refine take_at 5 (by kernel_rfl) (by kernel_rfl) (by kernel_rfl) (fun _ _ _ _ _ h => h) ⟨_, rfl⟩ (by assumption) (fun o ho => ?_)
            simp only [List.getElem?_toArray, List.getElem?_cons_succ, List.getElem?_cons_zero, Option.some.injEq] at ho
            subst ho
            refine ⟨?_, ⟨by rfl, ?_⟩, ?_⟩
            rotate_left
            · intro w hSw
              (try dsimp only at hSw)
              (go_simp; try with_reducible rfl)
            (try simp only [Act.put, List.setIfInBounds_toArray, List.set_cons_zero, List.set_cons_succ])
            refine take_at 6 (by kernel_rfl) (by kernel_rfl) (by kernel_rfl) (fun _ _ _ _ _ h => h) ⟨_, rfl⟩ (by assumption) (fun o ho => ?_)
            simp only [List.getElem?_toArray, List.getElem?_cons_succ, List.getElem?_cons_zero, Option.some.injEq] at ho
            subst ho
            refine ⟨?_, ⟨by rfl, ?_⟩, ?_⟩
            rotate_left
            · intro w hSw
              (try dsimp only at hSw)
              (go_simp; try with_reducible rfl)
            (try simp only [Act.put, List.setIfInBounds_toArray, List.set_cons_zero, List.set_cons_succ])
            refine take_at 7 (by kernel_rfl) (by kernel_rfl) (by kernel_rfl) (fun _ _ _ _ _ h => h) ⟨_, rfl⟩ (by assumption) (fun o ho => ?_)
            simp only [List.getElem?_toArray, List.getElem?_cons_succ, List.getElem?_cons_zero, Option.some.injEq] at ho
            subst ho
            refine ⟨?_, ⟨by rfl, ?_⟩, ?_⟩
            rotate_left
            · intro w hSw
              (try dsimp only at hSw)
              (go_simp; try with_reducible rfl)
            (try simp only [Act.put, List.setIfInBounds_toArray, List.set_cons_zero, List.set_cons_succ])
            refine take_at 8 (by kernel_rfl) (by kernel_rfl) (by kernel_rfl) (fun _ _ _ _ _ h => h) ⟨_, rfl⟩ (by assumption) (fun o ho => ?_)
            simp only [List.getElem?_toArray, List.getElem?_cons_succ, List.getElem?_cons_zero, Option.some.injEq] at ho
            subst ho
            refine ⟨?_, ⟨by rfl, ?_⟩, ?_⟩
            rotate_left
            · intro w hSw
              (try dsimp only at hSw)
              (go_simp; try with_reducible rfl)
            (try simp only [Act.put, List.setIfInBounds_toArray, List.set_cons_zero, List.set_cons_succ])
            refine wpAnyH_ready (rs := [9]) (by kernel_rfl) (by simp) ?_
            refine ready_at 9 ⟨_, rfl⟩ (fun o ho K hK => ?_) ?_
            · simp only [List.getElem?_toArray, List.getElem?_cons_succ, List.getElem?_cons_zero, Option.some.injEq] at ho
              subst ho
              go_simp
              obtain ⟨y47, hYn, z13, hbk⟩ := zero_new y46
              rw [← hYn]
              obtain ⟨b13, hbn⟩ : ∃ b, b = y46.heap.size := ⟨_, rfl⟩
              have hle13 : W6.heap.size ≤ b13 := by have := hS.size; omega
              have hne : b14 < b13 := by have := z14.lt; omega
              rw [← hbn] at z13 ⊢
              replace hS := below_on hS hbk
              replace hgx := hgx.below hbk
              replace hgy := hgy.below hbk
              replace z14 := z14.below hbk
              clear hYn hbn
              refine hK.out _ _ ?_ (fun hHeld2 => ?_)
              · exact HS0.out _ hS
              replace hHeld := hHeld2
              clear hK K hHeld2 hbk
              (try dsimp only at hHeld)
              (try simp only [List.setIfInBounds_toArray, List.set_cons_zero, List.set_cons_succ])
              refine wpAnyH_ready (rs := [11]) (by kernel_rfl) (by simp) ?_
              refine ready_at 11 ⟨_, rfl⟩ (fun o ho K hK => ?_) ?_
              · simp only [List.getElem?_toArray, List.getElem?_cons_succ, List.getElem?_cons_zero, Option.some.injEq] at ho
                subst ho
                obtain ⟨f0, f1, c0, c1⟩ := z13.facts
                go_simp
                obtain ⟨y48, hYn, z13', z14', hgx', hgy', hS'⟩ := store_pair z13 z14 (by omega) hgx hgy hS hle13 (.bool dx) (.slice Ax mx kx)
                rw [← hYn]
                clear hYn z13 z14 hgx hgy hS f0 f1 c0 c1
                have z13 := z13'
                have z14 := z14'
                have hgx := hgx'
                have hgy := hgy'
                have hS := hS'
                clear z13' z14' hgx' hgy' hS'
                refine hK.out _ _ ?_ (fun hHeld2 => ?_)
                · exact HS0.out _ hS
                replace hHeld := hHeld2
                clear hK K hHeld2
                (try dsimp only at hHeld)
                (try simp only [List.setIfInBounds_toArray, List.set_cons_zero, List.set_cons_succ])
                refine wpAnyH_ready (rs := [12]) (by kernel_rfl) (by simp) ?_
                refine ready_at 12 ⟨_, rfl⟩ (fun o ho K hK => ?_) ?_
                · simp only [List.getElem?_toArray, List.getElem?_cons_succ, List.getElem?_cons_zero, Option.some.injEq] at ho
                  subst ho
                  obtain ⟨f0, f1, c0, c1⟩ := z14.facts
                  go_simp
                  obtain ⟨y49, hYn, z14', z13', hgx', hgy', hS'⟩ := store_pair z14 z13 (by omega) hgx hgy hS hle14 (.bool dy) (.slice Ay my ky)
                  rw [← hYn]
                  clear hYn z13 z14 hgx hgy hS f0 f1 c0 c1
                  have z13 := z13'
                  have z14 := z14'
                  have hgx := hgx'
                  have hgy := hgy'
                  have hS := hS'
                  clear z13' z14' hgx' hgy' hS'
                  refine hK.out _ _ ?_ (fun hHeld2 => ?_)
                  · exact HS0.out _ hS
                  replace hHeld := hHeld2
                  clear hK K hHeld2
                  (try dsimp only at hHeld)
                  (try simp only [List.setIfInBounds_toArray, List.set_cons_zero, List.set_cons_succ])
                  refine take_at 13 (by kernel_rfl) (by kernel_rfl) (by kernel_rfl) (fun _ _ _ _ _ h => h) ⟨_, rfl⟩ (by assumption) (fun o ho => ?_)
                  simp only [List.getElem?_toArray, List.getElem?_cons_succ, List.getElem?_cons_zero, Option.some.injEq] at ho
                  subst ho
                  refine ⟨?_, ⟨by rfl, ?_⟩, ?_⟩
                  rotate_left
                  · intro w hSw
                    (try dsimp only at hSw)
                    (go_simp; try with_reducible rfl)
                  (try simp only [Act.put, List.setIfInBounds_toArray, List.set_cons_zero, List.set_cons_succ])
                  refine wpAnyH_done (by kernel_rfl) ?_ _
                  refine NoPanic.normal ?_
                  go_wp2_with fail
                  go_meet
                  case rel => exact ⟨b13, b14, rfl, rfl, rfl, At.of z13 HDx hgx, At.of z14 HDy hgy, hS⟩
                exact AllReadyH.nil
              exact AllReadyH.nil
            exact AllReadyH.nil
          refine ready_at 9 ⟨_, rfl⟩ (fun o ho K hK => ?_) ?_
          · simp only [List.getElem?_toArray, List.getElem?_cons_succ, List.getElem?_cons_zero, Option.some.injEq] at ho
            subst ho
            go_simp
            obtain ⟨y50, hYn, z13, hbk⟩ := zero_new y45
            rw [← hYn]
            obtain ⟨b13, hbn⟩ : ∃ b, b = y45.heap.size := ⟨_, rfl⟩
            have hle13 : W6.heap.size ≤ b13 := by have := hS.size; omega
            have hne : b14 < b13 := by have := z14.lt; omega
            rw [← hbn] at z13 ⊢
            replace hS := below_on hS hbk
            replace h_t1 := h_t1.below hbk
            replace z14 := z14.below hbk
            clear hYn hbn
            refine hK.out _ _ ?_ (fun hHeld2 => ?_)
            · exact HS0.out _ hS
            replace hHeld := hHeld2
            clear hK K hHeld2 hbk
            (try dsimp only at hHeld)
            (try simp only [List.setIfInBounds_toArray, List.set_cons_zero, List.set_cons_succ])
            refine wpAnyH_ready (rs := [4]) (by kernel_rfl) (by simp) ?_
            refine ready_at 4 ⟨_, rfl⟩ (fun o ho K hK => ?_) ?_
            · simp only [List.getElem?_toArray, List.getElem?_cons_succ, List.getElem?_cons_zero, Option.some.injEq] at ho
              subst ho
              go_simp
              refine (dm_i h_t1.iv (h_b.below hS) (by omega) (by omega) hz).mono ?_
              rintro e y51 ⟨vx, vy, rfl, ⟨hvx, hvy⟩, hbk⟩
              obtain ⟨dx, Ax, mx, kx, rfl, HDx, hgx⟩ := hvx.form
              obtain ⟨dy, Ay, my, ky, rfl, HDy, hgy⟩ := hvy.form
              clear hvx hvy h_t1
              replace hS := below_on hS hbk
              replace z13 := z13.below hbk
              replace z14 := z14.below hbk
              refine hK.out _ _ ?_ (fun hHeld2 => ?_)
              · exact HS0.out _ hS
              replace hHeld := hHeld2
              clear hK K hHeld2 hbk
              (try dsimp only at hHeld)
              (try simp only [List.setIfInBounds_toArray, List.set_cons_zero, List.set_cons_succ])
              refine take_at 5 (by kernel_rfl) (by kernel_rfl) (by kernel_rfl) (fun _ _ _ _ _ h => h) ⟨_, rfl⟩ (by assumption) (fun o ho => ?_)
              simp only [List.getElem?_toArray, List.getElem?_cons_succ, List.getElem?_cons_zero, Option.some.injEq] at ho
              subst ho
              refine ⟨?_, ⟨by rfl, ?_⟩, ?_⟩
              rotate_left
              · intro w hSw
                (try dsimp only at hSw)
                (go_simp; try with_reducible rfl)
              (try simp only [Act.put, List.setIfInBounds_toArray, List.set_cons_zero, List.set_cons_succ])
              refine take_at 6 (by kernel_rfl) (by kernel_rfl) (by kernel_rfl) (fun _ _ _ _ _ h => h) ⟨_, rfl⟩ (by assumption) (fun o ho => ?_)
              simp only [List.getElem?_toArray, List.getElem?_cons_succ, List.getElem?_cons_zero, Option.some.injEq] at ho
              subst ho
              refine ⟨?_, ⟨by rfl, ?_⟩, ?_⟩
              rotate_left
              · intro w hSw
                (try dsimp only at hSw)
                (go_simp; try with_reducible rfl)
              (try simp only [Act.put, List.setIfInBounds_toArray, List.set_cons_zero, List.set_cons_succ])
              refine take_at 7 (by kernel_rfl) (by kernel_rfl) (by kernel_rfl) (fun _ _ _ _ _ h => h) ⟨_, rfl⟩ (by assumption) (fun o ho => ?_)
              simp only [List.getElem?_toArray, List.getElem?_cons_succ, List.getElem?_cons_zero, Option.some.injEq] at ho
              subst ho
              refine ⟨?_, ⟨by rfl, ?_⟩, ?_⟩
              rotate_left
              · intro w hSw
                (try dsimp only at hSw)
                (go_simp; try with_reducible rfl)
              (try simp only [Act.put, List.setIfInBounds_toArray, List.set_cons_zero, List.set_cons_succ])
              refine take_at 8 (by kernel_rfl) (by kernel_rfl) (by kernel_rfl) (fun _ _ _ _ _ h => h) ⟨_, rfl⟩ (by assumption) (fun o ho => ?_)
              simp only [List.getElem?_toArray, List.getElem?_cons_succ, List.getElem?_cons_zero, Option.some.injEq] at ho
              subst ho
              refine ⟨?_, ⟨by rfl, ?_⟩, ?_⟩
              rotate_left
              · intro w hSw
                (try dsimp only at hSw)
                (go_simp; try with_reducible rfl)
              (try simp only [Act.put, List.setIfInBounds_toArray, List.set_cons_zero, List.set_cons_succ])
              refine wpAnyH_ready (rs := [11]) (by kernel_rfl) (by simp) ?_
              refine ready_at 11 ⟨_, rfl⟩ (fun o ho K hK => ?_) ?_
              · simp only [List.getElem?_toArray, List.getElem?_cons_succ, List.getElem?_cons_zero, Option.some.injEq] at ho
                subst ho
                obtain ⟨f0, f1, c0, c1⟩ := z13.facts
                go_simp
                obtain ⟨y52, hYn, z13', z14', hgx', hgy', hS'⟩ := store_pair z13 z14 (by omega) hgx hgy hS hle13 (.bool dx) (.slice Ax mx kx)
                rw [← hYn]
                clear hYn z13 z14 hgx hgy hS f0 f1 c0 c1
                have z13 := z13'
                have z14 := z14'
                have hgx := hgx'
                have hgy := hgy'
                have hS := hS'
                clear z13' z14' hgx' hgy' hS'
                refine hK.out _ _ ?_ (fun hHeld2 => ?_)
                · exact HS0.out _ hS
                replace hHeld := hHeld2
                clear hK K hHeld2
                (try dsimp only at hHeld)
                (try simp only [List.setIfInBounds_toArray, List.set_cons_zero, List.set_cons_succ])
                refine wpAnyH_ready (rs := [12]) (by kernel_rfl) (by simp) ?_
                refine ready_at 12 ⟨_, rfl⟩ (fun o ho K hK => ?_) ?_
                · simp only [List.getElem?_toArray, List.getElem?_cons_succ, List.getElem?_cons_zero, Option.some.injEq] at ho
                  subst ho
                  obtain ⟨f0, f1, c0, c1⟩ := z14.facts
                  go_simp
                  obtain ⟨y53, hYn, z14', z13', hgx', hgy', hS'⟩ := store_pair z14 z13 (by omega) hgx hgy hS hle14 (.bool dy) (.slice Ay my ky)
                  rw [← hYn]
                  clear hYn z13 z14 hgx hgy hS f0 f1 c0 c1
                  have z13 := z13'
                  have z14 := z14'
                  have hgx := hgx'
                  have hgy := hgy'
                  have hS := hS'
                  clear z13' z14' hgx' hgy' hS'
                  refine hK.out _ _ ?_ (fun hHeld2 => ?_)
                  · exact HS0.out _ hS
                  replace hHeld := hHeld2
                  clear hK K hHeld2
                  (try dsimp only at hHeld)
                  (try simp only [List.setIfInBounds_toArray, List.set_cons_zero, List.set_cons_succ])
                  refine take_at 13 (by kernel_rfl) (by kernel_rfl) (by kernel_rfl) (fun _ _ _ _ _ h => h) ⟨_, rfl⟩ (by assumption) (fun o ho => ?_)
                  simp only [List.getElem?_toArray, List.getElem?_cons_succ, List.getElem?_cons_zero, Option.some.injEq] at ho
                  subst ho
                  refine ⟨?_, ⟨by rfl, ?_⟩, ?_⟩
                  rotate_left
                  · intro w hSw
                    (try dsimp only at hSw)
                    (go_simp; try with_reducible rfl)
                  (try simp only [Act.put, List.setIfInBounds_toArray, List.set_cons_zero, List.set_cons_succ])
                  refine wpAnyH_done (by kernel_rfl) ?_ _
                  refine NoPanic.normal ?_
                  go_wp2_with fail
                  go_meet
                  case rel => exact ⟨b13, b14, rfl, rfl, rfl, At.of z13 HDx hgx, At.of z14 HDy hgy, hS⟩
                exact AllReadyH.nil
              exact AllReadyH.nil
            exact AllReadyH.nil
          exact AllReadyH.nil
        refine ready_at 9 ⟨_, rfl⟩ (fun o ho K hK => ?_) ?_
        · simp only [List.getElem?_toArray, List.getElem?_cons_succ, List.getElem?_cons_zero, Option.some.injEq] at ho
          subst ho
          go_simp
          obtain ⟨y54, hYn, z13, hbk⟩ := zero_new y44
          rw [← hYn]
          obtain ⟨b13, hbn⟩ : ∃ b, b = y44.heap.size := ⟨_, rfl⟩
          have hle13 : W6.heap.size ≤ b13 := by have := hS.size; omega
          have hne : b14 < b13 := by have := z14.lt; omega
          rw [← hbn] at z13 ⊢
          replace hS := below_on hS hbk
          replace z14 := z14.below hbk
          clear hYn hbn
          refine hK.out _ _ ?_ (fun hHeld2 => ?_)
          · exact HS0.out _ hS
          replace hHeld := hHeld2
          clear hK K hHeld2 hbk
          (try dsimp only at hHeld)
          (try simp only [List.setIfInBounds_toArray, List.set_cons_zero, List.set_cons_succ])
          refine wpAnyH_ready (rs := [2]) (by kernel_rfl) (by simp) ?_
          refine ready_at 2 ⟨_, rfl⟩ (fun o ho K hK => ?_) ?_
          · simp only [List.getElem?_toArray, List.getElem?_cons_succ, List.getElem?_cons_zero, Option.some.injEq] at ho
            subst ho
            go_simp
            refine (add_i (h_a.below hS) (h_b.below hS) (by omega)).mono ?_
            rintro e y55 ⟨t1, rfl, h_t1, hbk⟩
            replace hS := below_on hS hbk
            replace z13 := z13.below hbk
            replace z14 := z14.below hbk
            refine hK.out _ _ ?_ (fun hHeld2 => ?_)
            · exact HS0.out _ hS
            replace hHeld := hHeld2
            clear hK K hHeld2 hbk
            (try dsimp only at hHeld)
            (try simp only [List.setIfInBounds_toArray, List.set_cons_zero, List.set_cons_succ])
            refine wpAnyH_ready (rs := [4]) (by kernel_rfl) (by simp) ?_
            refine ready_at 4 ⟨_, rfl⟩ (fun o ho K hK => ?_) ?_
            · simp only [List.getElem?_toArray, List.getElem?_cons_succ, List.getElem?_cons_zero, Option.some.injEq] at ho
              subst ho
              go_simp
              refine (dm_i h_t1.iv (h_b.below hS) (by omega) (by omega) hz).mono ?_
              rintro e y56 ⟨vx, vy, rfl, ⟨hvx, hvy⟩, hbk⟩
              obtain ⟨dx, Ax, mx, kx, rfl, HDx, hgx⟩ := hvx.form
              obtain ⟨dy, Ay, my, ky, rfl, HDy, hgy⟩ := hvy.form
              clear hvx hvy h_t1
              replace hS := below_on hS hbk
              replace z13 := z13.below hbk
              replace z14 := z14.below hbk
              refine hK.out _ _ ?_ (fun hHeld2 => ?_)
              · exact HS0.out _ hS
              replace hHeld := hHeld2
              clear hK K hHeld2 hbk
              (try dsimp only at hHeld)
              (try simp only [List.setIfInBounds_toArray, List.set_cons_zero, List.set_cons_succ])
              refine take_at 5 (by kernel_rfl) (by kernel_rfl) (by kernel_rfl) (fun _ _ _ _ _ h => h) ⟨_, rfl⟩ (by assumption) (fun o ho => ?_)
              simp only [List.getElem?_toArray, List.getElem?_cons_succ, List.getElem?_cons_zero, Option.some.injEq] at ho
              subst ho
              refine ⟨?_, ⟨by rfl, ?_⟩, ?_⟩
              rotate_left
              · intro w hSw
                (try dsimp only at hSw)
                (go_simp; try with_reducible rfl)
              (try simp only [Act.put, List.setIfInBounds_toArray, List.set_cons_zero, List.set_cons_succ])
              refine take_at 6 (by kernel_rfl) (by kernel_rfl) (by kernel_rfl) (fun _ _ _ _ _ h => h) ⟨_, rfl⟩ (by assumption) (fun o ho => ?_)
              simp only [List.getElem?_toArray, List.getElem?_cons_succ, List.getElem?_cons_zero, Option.some.injEq] at ho
              subst ho
              refine ⟨?_, ⟨by rfl, ?_⟩, ?_⟩
              rotate_left
              · intro w hSw
                (try dsimp only at hSw)
                (go_simp; try with_reducible rfl)
              (try simp only [Act.put, List.setIfInBounds_toArray, List.set_cons_zero, List.set_cons_succ])
              refine take_at 7 (by kernel_rfl) (by kernel_rfl) (by kernel_rfl) (fun _ _ _ _ _ h => h) ⟨_, rfl⟩ (by assumption) (fun o ho => ?_)
              simp only [List.getElem?_toArray, List.getElem?_cons_succ, List.getElem?_cons_zero, Option.some.injEq] at ho
              subst ho
              refine ⟨?_, ⟨by rfl, ?_⟩, ?_⟩
              rotate_left
              · intro w hSw
                (try dsimp only at hSw)
                (go_simp; try with_reducible rfl)
              (try simp only [Act.put, List.setIfInBounds_toArray, List.set_cons_zero, List.set_cons_succ])
              refine take_at 8 (by kernel_rfl) (by kernel_rfl) (by kernel_rfl) (fun _ _ _ _ _ h => h) ⟨_, rfl⟩ (by assumption) (fun o ho => ?_)
              simp only [List.getElem?_toArray, List.getElem?_cons_succ, List.getElem?_cons_zero, Option.some.injEq] at ho
              subst ho
              refine ⟨?_, ⟨by rfl, ?_⟩, ?_⟩
              rotate_left
              · intro w hSw
                (try dsimp only at hSw)
                (go_simp; try with_reducible rfl)
              (try simp only [Act.put, List.setIfInBounds_toArray, List.set_cons_zero, List.set_cons_succ])
              refine wpAnyH_ready (rs := [11]) (by kernel_rfl) (by simp) ?_
              refine ready_at 11 ⟨_, rfl⟩ (fun o ho K hK => ?_) ?_
              · simp only [List.getElem?_toArray, List.getElem?_cons_succ, List.getElem?_cons_zero, Option.some.injEq] at ho
                subst ho
                obtain ⟨f0, f1, c0, c1⟩ := z13.facts
                go_simp
                obtain ⟨y57, hYn, z13', z14', hgx', hgy', hS'⟩ := store_pair z13 z14 (by omega) hgx hgy hS hle13 (.bool dx) (.slice Ax mx kx)
                rw [← hYn]
                clear hYn z13 z14 hgx hgy hS f0 f1 c0 c1
                have z13 := z13'
                have z14 := z14'
                have hgx := hgx'
                have hgy := hgy'
                have hS := hS'
                clear z13' z14' hgx' hgy' hS'
                refine hK.out _ _ ?_ (fun hHeld2 => ?_)
                · exact HS0.out _ hS
                replace hHeld := hHeld2
                clear hK K hHeld2
                (try dsimp only at hHeld)
                (try simp only [List.setIfInBounds_toArray, List.set_cons_zero, List.set_cons_succ])
                refine wpAnyH_ready (rs := [12]) (by kernel_rfl) (by simp) ?_
                refine ready_at 12 ⟨_, rfl⟩ (fun o ho K hK => ?_) ?_
                · simp only [List.getElem?_toArray, List.getElem?_cons_succ, List.getElem?_cons_zero, Option.some.injEq] at ho
                  subst ho
                  obtain ⟨f0, f1, c0, c1⟩ := z14.facts
                  go_simp
                  obtain ⟨y58, hYn, z14', z13', hgx', hgy', hS'⟩ := store_pair z14 z13 (by omega) hgx hgy hS hle14 (.bool dy) (.slice Ay my ky)
                  rw [← hYn]
                  clear hYn z13 z14 hgx hgy hS f0 f1 c0 c1
                  have z13 := z13'
                  have z14 := z14'
                  have hgx := hgx'
                  have hgy := hgy'
                  have hS := hS'
                  clear z13' z14' hgx' hgy' hS'
                  refine hK.out _ _ ?_ (fun hHeld2 => ?_)
                  · exact HS0.out _ hS
                  replace hHeld := hHeld2
                  clear hK K hHeld2
                  (try dsimp only at hHeld)
                  (try simp only [List.setIfInBounds_toArray, List.set_cons_zero, List.set_cons_succ])
                  refine take_at 13 (by kernel_rfl) (by kernel_rfl) (by kernel_rfl) (fun _ _ _ _ _ h => h) ⟨_, rfl⟩ (by assumption) (fun o ho => ?_)
                  simp only [List.getElem?_toArray, List.getElem?_cons_succ, List.getElem?_cons_zero, Option.some.injEq] at ho
                  subst ho
                  refine ⟨?_, ⟨by rfl, ?_⟩, ?_⟩
                  rotate_left
                  · intro w hSw
                    (try dsimp only at hSw)
                    (go_simp; try with_reducible rfl)
                  (try simp only [Act.put, List.setIfInBounds_toArray, List.set_cons_zero, List.set_cons_succ])
                  refine wpAnyH_done (by kernel_rfl) ?_ _
                  refine NoPanic.normal ?_
                  go_wp2_with fail
                  go_meet
                  case rel => exact ⟨b13, b14, rfl, rfl, rfl, At.of z13 HDx hgx, At.of z14 HDy hgy, hS⟩
                exact AllReadyH.nil
              exact AllReadyH.nil
            exact AllReadyH.nil
          exact AllReadyH.nil
        exact AllReadyH.nil
      exact AllReadyH.nil
    case rest =>
      clear hS
      obtain ⟨b_x, b_y, rfl, rfl, rfl, ⟨dx, Ax, mx, kx, p_x, HDx, hgx⟩, ⟨dy, Ay, my, ky, p_y, HDy, hgy⟩, hS⟩ := hcut
      replace p_a := p_a.below hS
      replace h_a := h_a.below hS
      replace p_b := p_b.below hS
      replace h_b := h_b.below hS
      replace p_q := p_q.below hS
      replace h_q := h_q.below hS
      replace p_r := p_r.below hS
      replace h_r := h_r.below hS
      have h_x := ICan.mk HDx.out hgx
      have h_y := ICan.mk HDy.out hgy
      replace hw := below_on hw hS
      clear hS HS0 HDx HDy hgx hgy
      have hS0 : ∀ w', Below wc.heap.size wc w' → (fun w' => ((w'.cell? ⟨b_a, 0, none⟩ = some (.bool sa) ∧ w'.cell? ⟨b_a, 1, none⟩ = some (.slice Aa ma ka)) ∧ (w'.cell? ⟨b_b, 0, none⟩ = some (.bool sb) ∧ w'.cell? ⟨b_b, 1, none⟩ = some (.slice Ab mb kb)) ∧ (w'.cell? ⟨b_q, 0, none⟩ = some (.bool dq) ∧ w'.cell? ⟨b_q, 1, none⟩ = some (.slice Aq mq kq)) ∧ (w'.cell? ⟨b_r, 0, none⟩ = some (.bool dr) ∧ w'.cell? ⟨b_r, 1, none⟩ = some (.slice Ar mr kr)) ∧ (w'.cell? ⟨b_x, 0, none⟩ = some (.bool dx) ∧ w'.cell? ⟨b_x, 1, none⟩ = some (.slice Ax mx kx)) ∧ (w'.cell? ⟨b_y, 0, none⟩ = some (.bool dy) ∧ w'.cell? ⟨b_y, 1, none⟩ = some (.slice Ay my ky))) ∧ Below wc.heap.size wc w') w' := fun w' h => ⟨⟨⟨(p_a.below h).facts.2.2.1, (p_a.below h).facts.2.2.2⟩, ⟨(p_b.below h).facts.2.2.1, (p_b.below h).facts.2.2.2⟩, ⟨(p_q.below h).facts.2.2.1, (p_q.below h).facts.2.2.2⟩, ⟨(p_r.below h).facts.2.2.1, (p_r.below h).facts.2.2.2⟩, ⟨(p_x.below h).facts.2.2.1, (p_x.below h).facts.2.2.2⟩, ⟨(p_y.below h).facts.2.2.1, (p_y.below h).facts.2.2.2⟩⟩, h⟩
      have HS0 := Lib.hid hS0
      clear hS0
      have hS : Below wc.heap.size wc wc := Below.refl _ _
      obtain ⟨⟨⟨c_a0, c_a1⟩, ⟨c_b0, c_b1⟩, ⟨c_q0, c_q1⟩, ⟨c_r0, c_r1⟩, ⟨c_x0, c_x1⟩, ⟨c_y0, c_y1⟩⟩, _⟩ := HS0.out _ hS
      go_wp2_with fail
      refine (sub_i (h_x.below hS).iv (h_q.below hS).iv (by omega)).mono ?_
      rintro e u9 ⟨t1, rfl, h_t1, hbk⟩
      replace hS := below_on hS hbk
      clear c_a0 c_a1 c_b0 c_b1 c_q0 c_q1 c_r0 c_r1 c_x0 c_x1 c_y0 c_y1
      clear hbk
      obtain ⟨⟨⟨c_a0, c_a1⟩, ⟨c_b0, c_b1⟩, ⟨c_q0, c_q1⟩, ⟨c_r0, c_r1⟩, ⟨c_x0, c_x1⟩, ⟨c_y0, c_y1⟩⟩, _⟩ := HS0.out _ hS
      go_wp2_with fail
      refine (of_i _ 1 (by omega)).mono ?_
      rintro e u10 ⟨t2, rfl, h_t2, hbk⟩
      replace h_t1 := h_t1.below hbk
      replace hS := below_on hS hbk
      clear c_a0 c_a1 c_b0 c_b1 c_q0 c_q1 c_r0 c_r1 c_x0 c_x1 c_y0 c_y1
      clear hbk
      obtain ⟨⟨⟨c_a0, c_a1⟩, ⟨c_b0, c_b1⟩, ⟨c_q0, c_q1⟩, ⟨c_r0, c_r1⟩, ⟨c_x0, c_x1⟩, ⟨c_y0, c_y1⟩⟩, _⟩ := HS0.out _ hS
      go_wp2_with fail
      refine (cmp_i h_t1.iv h_t2.iv (by omega)).mono ?_
      rintro e u11 ⟨rfl, hbk⟩
      rw [icmp_of (show (na + nb).fdiv nb - na.fdiv nb = 1 by rw [(fdm_more hz).1]; omega)]
      replace hS := below_on hS hbk
      clear c_a0 c_a1 c_b0 c_b1 c_q0 c_q1 c_r0 c_r1 c_x0 c_x1 c_y0 c_y1
      clear hbk h_t1 h_t2
      obtain ⟨⟨⟨c_a0, c_a1⟩, ⟨c_b0, c_b1⟩, ⟨c_q0, c_q1⟩, ⟨c_r0, c_r1⟩, ⟨c_x0, c_x1⟩, ⟨c_y0, c_y1⟩⟩, _⟩ := HS0.out _ hS
      go_wp2_with fail
      refine (cmp_i (h_y.below hS).iv (h_r.below hS).iv (by omega)).mono ?_
      rintro e u12 ⟨rfl, hbk⟩
      rw [icmp_of (fdm_more hz).2]
      replace hS := below_on hS hbk
      clear c_a0 c_a1 c_b0 c_b1 c_q0 c_q1 c_r0 c_r1 c_x0 c_x1 c_y0 c_y1
      clear hbk
      rcases HRHO.out with rfl | rfl
      all_goals
        go_wp2_with fail
        go_ret
        exact ⟨rfl, below_on hw hS⟩
end Go.Proofs.YtiidghfkdjefgaaDoor

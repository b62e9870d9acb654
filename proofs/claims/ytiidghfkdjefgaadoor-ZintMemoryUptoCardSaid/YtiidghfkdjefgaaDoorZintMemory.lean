/-
  The walk of riddlelaw02.ZintMemory: it answers true.
-/
import Derived.Test.YtiidghfkdjefgaaDoorZAwake
import Derived.Deep.RegionHeld3
import Derived.Test.YtiidghfkdjefgaaDoorZOver
import Derived.Test.YtiidghfkdjefgaaDoorZFloor
import Derived.Test.YtiidghfkdjefgaaDoorZHand
import Derived.Deep.Cut
namespace Go.Proofs.YtiidghfkdjefgaaDoor
open Go.RowKit

theorem NwS.form {base : Nat} {w : World} {v : Value} (h : NwS base w v) : ∃ A n c, v = .slice A n c := by
  rcases h with h | ⟨g, n, c, cs, e, _⟩
  · exact ⟨_, _, _, h⟩
  · exact ⟨_, _, _, e⟩
theorem NwI.form {base : Nat} {w : World} {v : Value} (h : NwI base w v) : ∃ d A n c, v = .agg #[.bool d, .slice A n c] := by
  obtain ⟨s, sl, rfl, h⟩ := h
  obtain ⟨A, n, c, rfl⟩ := h.form
  exact ⟨s, A, n, c, rfl⟩
theorem ican_nil {w : World} {v : Value} {K L : Nat} {z : Int} (h : ICan w v K z) (hk : K ≤ L) : ICan w v L z := h.le hk
theorem dm_m {w : World} {a b : Value} {K L : Nat} {x y : Int} (ha : IV w a K x) (hb : IV w b L y) (hK : K ≤ 4398046511104) (hL : L ≤ 4398046511104) :
    Calls Tryd.prog 13 #[a, b] w fun e w' => ∃ q r k, e = .returned (.tuple #[q, r, .int .i64 k]) ∧ ICan w' r (2 * L + 1) (if y = 0 then 0 else x.fmod y) ∧ Below w.heap.size w w' ∧ (NwI w.heap.size w' q ∧ NwI w.heap.size w' r ∧ Sep q r) := by
  by_cases hy : y = 0
  · rw [if_pos hy]
    exact (dm_n0 ha hb hK hL hy).mono fun _ _ ⟨q, r, h1, h2, h3⟩ => ⟨q, r, _, h1, h2.2.le (by omega), h3⟩
  · rw [if_neg hy]
    exact (dm_n ha hb hK hL hy).mono fun _ _ ⟨q, r, h1, h2, h3⟩ => ⟨q, r, _, h1, h2.2, h3⟩
theorem mod_m {w : World} {a b : Value} {K L : Nat} {x y : Int} (ha : IV w a K x) (hb : IV w b L y) (hK : K ≤ 1099511627776) (hL : L ≤ 1099511627776) :
    Calls Tryd.prog 51 #[a, b] w fun e w' => ∃ u, e = .returned u ∧ ICan w' u (2 * K + L + 4) (if y = 0 then 0 else x.fmod y) ∧ Below w.heap.size w w' := by
  by_cases hy : y = 0
  · rw [if_pos hy]
    exact (mod_r0 ha hb hK hL hy).mono fun _ _ ⟨u, h1, h2, h3⟩ => ⟨u, h1, h2.le (by omega), h3⟩
  · rw [if_neg hy]
    exact mod_r ha hb hK hL hy
/-- A list of one number. -/
theorem arr_one {w w0 : World} {K : Nat} {x : Int} {d1 : Bool} {B1 : Option Addr} {m1 c1 : Nat} {t : TypeId} (hx : IV w0 (.agg #[.bool d1, .slice B1 m1 c1]) K x)
    (hw : w = w0.alloc (.cells #[.bool d1, .slice B1 m1 c1] t)) : ArrI w (some ⟨w0.heap.size, 0, none⟩) 1 K [x] := by
  subst hw
  have hb := below_alloc1 w0 (.cells #[.bool d1, .slice B1 m1 c1] t)
  have h0 := heap_alloc_new w0 (.cells #[.bool d1, .slice B1 m1 c1] t)
  refine ⟨rfl, fun _ => ⟨_, 0, rfl, fun i hi => ?_⟩⟩
  obtain rfl : i = 0 := by omega
  exact ⟨d1, B1, m1, c1, by rw [cell_of_row _ _ _ _ _ _ h0]; rfl, by rw [cell_of_row _ _ _ _ _ _ h0]; rfl, hx.below hb⟩
section
variable {P : Program} {ops : Array Oper} {Q : Exit → Act → World → Prop} {md : Region.Mode} {S : World → Prop}
/-- Number i is not wanted. -/
theorem take_not {fuel : Nat} {listed : Array Bool} {a : Act} {w : World} (i : Nat) (hs : Region.noSelect ops = true) (hf : Region.free md ops listed i = true) (hr : (Region.ready md ops listed).contains i = true)
    (hQ : ∀ c a d v w, Q (.panic c) (a.put d v) w → Q (.panic c) a w) (hex : ∃ o, ops[i]? = some o) (hS : S w)
    (h : ∀ o, ops[i]? = some o → Region.wanted o (yielded ops a.tmps) = false ∧ wpAnyH P md ops Q S fuel (listed.setIfInBounds i true) (a.put o.dst undef) w) :
    wpAnyH P md ops Q S (fuel + 1) listed a w := by
  obtain ⟨o, ho⟩ := hex
  obtain ⟨hy, hrest⟩ := h o ho
  exact wpAnyH_take ho hs hf hr (fun c a w h => hQ c a _ _ w h) (Or.inr ⟨hy, rfl⟩) hS hrest
end
theorem size_alloc_le (w : World) (o : Obj) : w.heap.size ≤ (w.alloc o).heap.size := (below_alloc1 w o).size

set_option maxRecDepth 100000 in
set_option maxHeartbeats 40000000 in
theorem walkZintMemory (w : World) (a b : Value) (ssa : Bool) (lla : List Nat) (ssb : Bool) (llb : List Nat) (Ka Kb : Nat) (na nb : Int) (h_a : IV w a Ka na) (h_b : IV w b Kb nb) (hKa : Ka ≤ 1048576) (hKb : Kb ≤ 1048576) (r_a : IRaw w a Ka ssa lla) (r_b : IRaw w b Kb ssb llb) (ea : sgn ssa (N.nv lla) = na) (eb : sgn ssb (N.nv llb) = nb) :
    Calls Tryd.prog 10 #[a, b] w fun e w' => e = .returned (.bool true) ∧ Below w.heap.size w w' := by
  have EA := Lib.hid ea
  have EB := Lib.hid eb
  clear ea eb
  obtain ⟨sa, xa, ⟨la, rfl, hma⟩, hza⟩ := h_a
  obtain ⟨Aa, ma, ka, rfl⟩ := hma.slice
  have h_a : IV w (.agg #[.bool sa, .slice Aa ma ka]) Ka na := ⟨sa, xa, ⟨_, rfl, hma⟩, hza⟩
  obtain ⟨sb, xb, ⟨lb, rfl, hmb⟩, hzb⟩ := h_b
  obtain ⟨Ab, mb, kb, rfl⟩ := hmb.slice
  have h_b : IV w (.agg #[.bool sb, .slice Ab mb kb]) Kb nb := ⟨sb, xb, ⟨_, rfl, hmb⟩, hzb⟩
  have hw0 : Below w.heap.size w w := Below.refl _ _
  obtain ⟨V0, hV0, p_a, hb0⟩ := var_new w sa Aa ma ka
  obtain ⟨b_a, hb_a⟩ : ∃ b, b = w.heap.size := ⟨_, rfl⟩
  rw [← hb_a] at p_a
  replace hw0 := below_on hw0 hb0
  obtain ⟨V1, hV1, p_b, hb1⟩ := var_new V0 sb Ab mb kb
  obtain ⟨b_b, hb_b⟩ : ∃ b, b = w.heap.size + 1 := ⟨_, rfl⟩
  rw [show V0.heap.size = b_b by rw [hV0, hb_b]; simp] at p_b
  replace p_a := p_a.below hb1
  replace hw0 := below_on hw0 hb1
  replace h_a := h_a.below hw0
  replace h_b := h_b.below hw0
  replace r_a := r_a.below hw0
  replace r_b := r_b.below hw0
  clear hma hza
  clear hmb hzb
  have HB_a := Lib.hid hb_a
  have HB_b := Lib.hid hb_b
  have HV0 := Lib.hid hV0
  have HV1 := Lib.hid hV1
  clear hb_a hb_b hV0 hV1 hb0 hb1
  have hw := hw0
  clear hw0
  go_enter Tryd.func10, Tryd.ntmps10
  go_wp2_with fail
  try simp only [World.size_alloc]
  rw [← HV0.out]
  rw [← HV1.out]
  try rw [← HB_b.out]
  try rw [← HB_a.out]
  clear HB_a HB_b
  clear HV0 HV1
  have hS0 : ∀ w', Below V1.heap.size V1 w' → (fun w' => ((w'.cell? ⟨b_a, 0, none⟩ = some (.bool sa) ∧ w'.cell? ⟨b_a, 1, none⟩ = some (.slice Aa ma ka)) ∧ (w'.cell? ⟨b_b, 0, none⟩ = some (.bool sb) ∧ w'.cell? ⟨b_b, 1, none⟩ = some (.slice Ab mb kb))) ∧ Below V1.heap.size V1 w') w' := fun w' h => ⟨⟨⟨(p_a.below h).facts.2.2.1, (p_a.below h).facts.2.2.2⟩, ⟨(p_b.below h).facts.2.2.1, (p_b.below h).facts.2.2.2⟩⟩, h⟩
  have HS0 := Lib.hid hS0
  clear hS0
  have hS : Below V1.heap.size V1 V1 := Below.refl _ _
  obtain ⟨σ, eσ⟩ : ∃ q, q = isgn nb := ⟨_, rfl⟩
  have Eσ := Lib.hid eσ
  clear eσ
  refine (awake_l _).mono ?_
  rintro e u1 ⟨rfl, hbk⟩
  replace hS := below_on hS hbk
  clear hbk
  obtain ⟨⟨⟨c_a0, c_a1⟩, ⟨c_b0, c_b1⟩⟩, _⟩ := HS0.out _ hS
  go_wp2_with fail
  refine (lent_l (r_a.below hS) (by omega)).mono ?_
  rintro e u2 ⟨gx, m_x, rfl, ⟨hlnx, hlex, _⟩, hL, hbk⟩
  have LL := Lib.hid hL
  clear hL
  replace hS := below_on hS hbk
  clear c_a0 c_a1 c_b0 c_b1
  clear hbk
  go_upto_region 3 with (fail)
  obtain ⟨W3, hWk, p_x, hbv⟩ := var_new u2 ssa (some ⟨gx, 0, none⟩) m_x (m_x + 2)
  rw [← hWk]
  obtain ⟨b_x, hbe⟩ : ∃ b, b = u2.heap.size := ⟨_, rfl⟩
  rw [← hbe] at p_x ⊢
  replace hS := below_on hS hbv
  replace p_a := p_a.below hS
  replace h_a := h_a.below hS
  replace p_b := p_b.below hS
  replace h_b := h_b.below hS
  replace r_a := r_a.below hS
  replace r_b := r_b.below hS
  have hL : Lnt W3 gx m_x lla := Lnt.below LL.out hbv
  have h_x := lnt_iv (s := ssa) hL hlnx hlex
  rw [EA.out] at h_x
  have L_x := Lib.hid hL
  have HLNx := Lib.hid hlnx
  replace hw := below_on hw hS
  clear hWk hbe hS HS0 hbv LL hL hlnx
  have hS0 : ∀ w', Below W3.heap.size W3 w' → (fun w' => ((w'.cell? ⟨b_a, 0, none⟩ = some (.bool sa) ∧ w'.cell? ⟨b_a, 1, none⟩ = some (.slice Aa ma ka)) ∧ (w'.cell? ⟨b_b, 0, none⟩ = some (.bool sb) ∧ w'.cell? ⟨b_b, 1, none⟩ = some (.slice Ab mb kb)) ∧ (w'.cell? ⟨b_x, 0, none⟩ = some (.bool ssa) ∧ w'.cell? ⟨b_x, 1, none⟩ = some (.slice (some ⟨gx, 0, none⟩) m_x (m_x + 2)))) ∧ Below W3.heap.size W3 w') w' := fun w' h => ⟨⟨⟨(p_a.below h).facts.2.2.1, (p_a.below h).facts.2.2.2⟩, ⟨(p_b.below h).facts.2.2.1, (p_b.below h).facts.2.2.2⟩, ⟨(p_x.below h).facts.2.2.1, (p_x.below h).facts.2.2.2⟩⟩, h⟩
  have HS0 := Lib.hid hS0
  clear hS0
  have hS : Below W3.heap.size W3 W3 := Below.refl _ _
  obtain ⟨⟨⟨c_a0, c_a1⟩, ⟨c_b0, c_b1⟩, ⟨c_x0, c_x1⟩⟩, _⟩ := HS0.out _ hS
  go_wp2_with fail
  refine (lent_l (r_b.below hS) (by omega)).mono ?_
  rintro e u4 ⟨gy, m_y, rfl, ⟨hlny, hley, _⟩, hL, hbk⟩
  have LL := Lib.hid hL
  clear hL
  replace hS := below_on hS hbk
  clear c_a0 c_a1 c_b0 c_b1 c_x0 c_x1
  clear hbk
  go_upto_region 4 with (fail)
  obtain ⟨W5, hWk, p_y, hbv⟩ := var_new u4 ssb (some ⟨gy, 0, none⟩) m_y (m_y + 2)
  rw [← hWk]
  obtain ⟨b_y, hbe⟩ : ∃ b, b = u4.heap.size := ⟨_, rfl⟩
  rw [← hbe] at p_y ⊢
  replace hS := below_on hS hbv
  replace p_a := p_a.below hS
  replace h_a := h_a.below hS
  replace p_b := p_b.below hS
  replace h_b := h_b.below hS
  replace p_x := p_x.below hS
  replace h_x := h_x.below hS
  replace r_a := r_a.below hS
  replace r_b := r_b.below hS
  have L_x' := Lib.hid (Lnt.below L_x.out hS)
  clear L_x
  have L_x := L_x'
  clear L_x'
  have hL : Lnt W5 gy m_y llb := Lnt.below LL.out hbv
  have h_y := lnt_iv (s := ssb) hL hlny hley
  rw [EB.out] at h_y
  have L_y := Lib.hid hL
  have HLNy := Lib.hid hlny
  replace hw := below_on hw hS
  clear hWk hbe hS HS0 hbv LL hL hlny
  have hS0 : ∀ w', Below W5.heap.size W5 w' → (fun w' => ((w'.cell? ⟨b_a, 0, none⟩ = some (.bool sa) ∧ w'.cell? ⟨b_a, 1, none⟩ = some (.slice Aa ma ka)) ∧ (w'.cell? ⟨b_b, 0, none⟩ = some (.bool sb) ∧ w'.cell? ⟨b_b, 1, none⟩ = some (.slice Ab mb kb)) ∧ (w'.cell? ⟨b_x, 0, none⟩ = some (.bool ssa) ∧ w'.cell? ⟨b_x, 1, none⟩ = some (.slice (some ⟨gx, 0, none⟩) m_x (m_x + 2))) ∧ (w'.cell? ⟨b_y, 0, none⟩ = some (.bool ssb) ∧ w'.cell? ⟨b_y, 1, none⟩ = some (.slice (some ⟨gy, 0, none⟩) m_y (m_y + 2)))) ∧ Below W5.heap.size W5 w') w' := fun w' h => ⟨⟨⟨(p_a.below h).facts.2.2.1, (p_a.below h).facts.2.2.2⟩, ⟨(p_b.below h).facts.2.2.1, (p_b.below h).facts.2.2.2⟩, ⟨(p_x.below h).facts.2.2.1, (p_x.below h).facts.2.2.2⟩, ⟨(p_y.below h).facts.2.2.1, (p_y.below h).facts.2.2.2⟩⟩, h⟩
  have HS0 := Lib.hid hS0
  clear hS0
  have hS : Below W5.heap.size W5 W5 := Below.refl _ _
  obtain ⟨⟨⟨c_a0, c_a1⟩, ⟨c_b0, c_b1⟩, ⟨c_x0, c_x1⟩, ⟨c_y0, c_y1⟩⟩, _⟩ := HS0.out _ hS
  go_wp2_with fail
  refine (norm_n (h_x.below hS) (by omega)).mono ?_
  rintro e u6 ⟨vv, rfl, _, hbk, hn⟩
  replace hn := hn.le (base' := W5.heap.size) (hS.size)
  replace hS := below_on hS hbk
  clear c_a0 c_a1 c_b0 c_b1 c_x0 c_x1 c_y0 c_y1
  have HN := Lib.hid hn
  clear hn hbk
  obtain ⟨⟨⟨c_a0, c_a1⟩, ⟨c_b0, c_b1⟩, ⟨c_x0, c_x1⟩, ⟨c_y0, c_y1⟩⟩, _⟩ := HS0.out _ hS
  go_wp2_with fail
  refine (over_l HN.out).mono ?_
  rintro e u7 ⟨rfl, hwr⟩
  replace hS := hwr.on HN.out hS (Nat.le_refl _)
  clear hwr
  clear c_a0 c_a1 c_b0 c_b1 c_x0 c_x1 c_y0 c_y1
  obtain ⟨⟨⟨c_a0, c_a1⟩, ⟨c_b0, c_b1⟩, ⟨c_x0, c_x1⟩, ⟨c_y0, c_y1⟩⟩, _⟩ := HS0.out _ hS
  go_wp2_with fail
  refine (neg_n (h_x.below hS) (by omega)).mono ?_
  rintro e u8 ⟨vv, rfl, _, hbk, hn⟩
  replace hn := hn.le (base' := W5.heap.size) (hS.size)
  replace hS := below_on hS hbk
  clear c_a0 c_a1 c_b0 c_b1 c_x0 c_x1 c_y0 c_y1
  have HN := Lib.hid hn
  clear hn hbk
  obtain ⟨⟨⟨c_a0, c_a1⟩, ⟨c_b0, c_b1⟩, ⟨c_x0, c_x1⟩, ⟨c_y0, c_y1⟩⟩, _⟩ := HS0.out _ hS
  go_wp2_with fail
  refine (over_l HN.out).mono ?_
  rintro e u9 ⟨rfl, hwr⟩
  replace hS := hwr.on HN.out hS (Nat.le_refl _)
  clear hwr
  clear c_a0 c_a1 c_b0 c_b1 c_x0 c_x1 c_y0 c_y1
  obtain ⟨⟨⟨c_a0, c_a1⟩, ⟨c_b0, c_b1⟩, ⟨c_x0, c_x1⟩, ⟨c_y0, c_y1⟩⟩, _⟩ := HS0.out _ hS
  go_wp2_with fail
  refine (abs_n (h_x.below hS) (by omega)).mono ?_
  rintro e u10 ⟨vv, rfl, _, hbk, hn⟩
  replace hn := hn.le (base' := W5.heap.size) (hS.size)
  replace hS := below_on hS hbk
  clear c_a0 c_a1 c_b0 c_b1 c_x0 c_x1 c_y0 c_y1
  have HN := Lib.hid hn
  clear hn hbk
  obtain ⟨⟨⟨c_a0, c_a1⟩, ⟨c_b0, c_b1⟩, ⟨c_x0, c_x1⟩, ⟨c_y0, c_y1⟩⟩, _⟩ := HS0.out _ hS
  go_wp2_with fail
  refine (over_l HN.out).mono ?_
  rintro e u11 ⟨rfl, hwr⟩
  replace hS := hwr.on HN.out hS (Nat.le_refl _)
  clear hwr
  clear c_a0 c_a1 c_b0 c_b1 c_x0 c_x1 c_y0 c_y1
  obtain ⟨⟨⟨c_a0, c_a1⟩, ⟨c_b0, c_b1⟩, ⟨c_x0, c_x1⟩, ⟨c_y0, c_y1⟩⟩, _⟩ := HS0.out _ hS
  go_wp2_with fail
  refine (add_n (h_x.below hS) (h_y.below hS) (by omega)).mono ?_
  rintro e u12 ⟨vv, rfl, _, hbk, hn⟩
  replace hn := hn.le (base' := W5.heap.size) (hS.size)
  replace hS := below_on hS hbk
  clear c_a0 c_a1 c_b0 c_b1 c_x0 c_x1 c_y0 c_y1
  have HN := Lib.hid hn
  clear hn hbk
  obtain ⟨⟨⟨c_a0, c_a1⟩, ⟨c_b0, c_b1⟩, ⟨c_x0, c_x1⟩, ⟨c_y0, c_y1⟩⟩, _⟩ := HS0.out _ hS
  go_wp2_with fail
  refine (over_l HN.out).mono ?_
  rintro e u13 ⟨rfl, hwr⟩
  replace hS := hwr.on HN.out hS (Nat.le_refl _)
  clear hwr
  clear c_a0 c_a1 c_b0 c_b1 c_x0 c_x1 c_y0 c_y1
  obtain ⟨⟨⟨c_a0, c_a1⟩, ⟨c_b0, c_b1⟩, ⟨c_x0, c_x1⟩, ⟨c_y0, c_y1⟩⟩, _⟩ := HS0.out _ hS
  go_wp2_with fail
  refine (sub_w (h_x.below hS) (h_y.below hS) (by omega)).mono ?_
  rintro e u14 ⟨vv, rfl, _, hbk, hn⟩
  replace hn := hn.le (base' := W5.heap.size) (hS.size)
  replace hS := below_on hS hbk
  clear c_a0 c_a1 c_b0 c_b1 c_x0 c_x1 c_y0 c_y1
  have HN := Lib.hid hn
  clear hn hbk
  obtain ⟨⟨⟨c_a0, c_a1⟩, ⟨c_b0, c_b1⟩, ⟨c_x0, c_x1⟩, ⟨c_y0, c_y1⟩⟩, _⟩ := HS0.out _ hS
  go_wp2_with fail
  refine (over_l HN.out).mono ?_
  rintro e u15 ⟨rfl, hwr⟩
  replace hS := hwr.on HN.out hS (Nat.le_refl _)
  clear hwr
  clear c_a0 c_a1 c_b0 c_b1 c_x0 c_x1 c_y0 c_y1
  obtain ⟨⟨⟨c_a0, c_a1⟩, ⟨c_b0, c_b1⟩, ⟨c_x0, c_x1⟩, ⟨c_y0, c_y1⟩⟩, _⟩ := HS0.out _ hS
  go_wp2_with fail
  refine (mul_n (h_x.below hS) (h_y.below hS) (by omega)).mono ?_
  rintro e u16 ⟨vv, rfl, _, hbk, hn⟩
  replace hn := hn.le (base' := W5.heap.size) (hS.size)
  replace hS := below_on hS hbk
  clear c_a0 c_a1 c_b0 c_b1 c_x0 c_x1 c_y0 c_y1
  have HN := Lib.hid hn
  clear hn hbk
  obtain ⟨⟨⟨c_a0, c_a1⟩, ⟨c_b0, c_b1⟩, ⟨c_x0, c_x1⟩, ⟨c_y0, c_y1⟩⟩, _⟩ := HS0.out _ hS
  go_wp2_with fail
  refine (over_l HN.out).mono ?_
  rintro e u17 ⟨rfl, hwr⟩
  replace hS := hwr.on HN.out hS (Nat.le_refl _)
  clear hwr
  clear c_a0 c_a1 c_b0 c_b1 c_x0 c_x1 c_y0 c_y1
  obtain ⟨⟨⟨c_a0, c_a1⟩, ⟨c_b0, c_b1⟩, ⟨c_x0, c_x1⟩, ⟨c_y0, c_y1⟩⟩, _⟩ := HS0.out _ hS
  go_wp2_with fail
  refine (dm_m (h_x.below hS) (h_y.below hS) (by omega) (by omega)).mono ?_
  rintro e u18 ⟨vq, vr, kk, rfl, h_r, hbk, hnq, hnr, hsp⟩
  replace hnq := hnq.le (base' := W5.heap.size) hS.size
  replace hnr := hnr.le (base' := W5.heap.size) hS.size
  obtain ⟨dq, Aq, mq, kq, rfl⟩ := hnq.form
  obtain ⟨dr, Ar, mr, kr, rfl⟩ := hnr.form
  have HNQ := Lib.hid hnq
  have HNR := Lib.hid hnr
  have HSP := Lib.hid hsp
  have HR := Lib.hid h_r
  clear hnq hnr hsp h_r
  replace hS := below_on hS hbk
  clear c_a0 c_a1 c_b0 c_b1 c_x0 c_x1 c_y0 c_y1
  clear hbk
  go_upto_region 11 with (fail)
  obtain ⟨Wq, hWk, p_q, p_r, hbv⟩ := var_new2 u18 dq Aq mq kq dr Ar mr kr
  rw [← hWk]
  obtain ⟨b_r, hbe2⟩ : ∃ b, b = u18.heap.size + 1 := ⟨_, rfl⟩
  rw [← hbe2] at p_r ⊢
  obtain ⟨b_q, hbe⟩ : ∃ b, b = u18.heap.size := ⟨_, rfl⟩
  rw [← hbe] at p_q ⊢
  replace hS := below_on hS hbv
  have hnq := HNQ.out.below hbv
  have hnr := HNR.out.below hbv
  have h_r := HR.out.below hbv
  obtain ⟨_, _, cq0, cq1⟩ := p_q.facts
  replace HNQ := Lib.hid hnq
  replace HNR := Lib.hid hnr
  replace HR := Lib.hid h_r
  have PR := Lib.hid p_r
  clear hWk hbe hbe2 hbv hnq hnr h_r p_q p_r
  go_wp2_with fail
  refine (over_l HNQ.out).mono ?_
  rintro e u19 ⟨rfl, hwr⟩
  have p_r := hwr.pair PR.out
  have h_r := hwr.ican HSP.out HNR.out HR.out
  have hnr := hwr.nwi HSP.out HNR.out
  replace hS := hwr.on HNQ.out hS (Nat.le_refl _)
  clear hwr
  clear HNQ HNR HSP HR PR cq0 cq1
  have HNR := Lib.hid hnr
  clear hnr
  go_upto_region 12 with (fail)
  have HQ := Lib.hid hS
  have h_a2 := h_a.below hS
  have h_b2 := h_b.below hS
  have hT0 : ∀ w', Below u19.heap.size u19 w' → (fun w' => ((w'.cell? ⟨b_r, 0, none⟩ = some (.bool dr) ∧ w'.cell? ⟨b_r, 1, none⟩ = some (.slice Ar mr kr)) ∧ (w'.cell? ⟨b_a, 0, none⟩ = some (.bool sa) ∧ w'.cell? ⟨b_a, 1, none⟩ = some (.slice Aa ma ka)) ∧ (w'.cell? ⟨b_b, 0, none⟩ = some (.bool sb) ∧ w'.cell? ⟨b_b, 1, none⟩ = some (.slice Ab mb kb))) ∧ Below u19.heap.size u19 w') w' := fun w' h => ⟨⟨⟨(p_r.below h).facts.2.2.1, (p_r.below h).facts.2.2.2⟩, ⟨((p_a.below HQ.out).below h).facts.2.2.1, ((p_a.below HQ.out).below h).facts.2.2.2⟩, ⟨((p_b.below HQ.out).below h).facts.2.2.1, ((p_b.below HQ.out).below h).facts.2.2.2⟩⟩, h⟩
  have HT0 := Lib.hid hT0
  clear hT0 hS
  have hS : Below u19.heap.size u19 u19 := Below.refl _ _
  go_region_held3 (fun w' => ((w'.cell? ⟨b_r, 0, none⟩ = some (.bool dr) ∧ w'.cell? ⟨b_r, 1, none⟩ = some (.slice Ar mr kr)) ∧ (w'.cell? ⟨b_a, 0, none⟩ = some (.bool sa) ∧ w'.cell? ⟨b_a, 1, none⟩ = some (.slice Aa ma ka)) ∧ (w'.cell? ⟨b_b, 0, none⟩ = some (.bool sb) ∧ w'.cell? ⟨b_b, 1, none⟩ = some (.slice Ab mb kb))) ∧ Below u19.heap.size u19 w')
    (first | exact HT0.out _ (by with_reducible assumption) | exact HT0.out _ (Below.drew (by with_reducible assumption)))
    (first
      | (go_at_call 15; have _q := mk0; clear _q; refine (is_l (h_r.below (s_below (by with_reducible assumption))) h_t1.iv (by omega) rfl).mono ?_; rintro e wn ⟨rfl, hb⟩; have hS2 := below_on (s_below (by with_reducible assumption)) hb; clear hS; have hS := hS2; clear hS2 hb)
      | (go_at_call 51; refine (mod_m (h_a2.below (s_below (by with_reducible assumption))) (h_b2.below (s_below (by with_reducible assumption))) (by omega) (by omega)).mono ?_; rintro e wn ⟨t1, rfl, h_t1, hb⟩; have hS2 := below_on (s_below (by with_reducible assumption)) hb; clear hS; have hS := hS2; clear hS2 hb; have mk0 : True := trivial))
  have HU := Lib.hid hS
  replace hS := below_on HQ.out HU.out
  have PR := Lib.hid (p_r.below HU.out)
  replace HNR := Lib.hid (HNR.out.below HU.out)
  clear HQ HT0 h_a2 h_b2 h_r p_r HU h_t1 mk0
  go_upto_region 13 with (fail)
  obtain ⟨_, _, cr0, cr1⟩ := PR.out.facts
  go_wp2_with fail
  refine (over_l HNR.out).mono ?_
  rintro e u20 ⟨rfl, hwr⟩
  replace hS := hwr.on HNR.out hS (Nat.le_refl _)
  clear hwr
  clear HNR PR cr0 cr1
  obtain ⟨⟨⟨c_a0, c_a1⟩, ⟨c_b0, c_b1⟩, ⟨c_x0, c_x1⟩, ⟨c_y0, c_y1⟩⟩, _⟩ := HS0.out _ hS
  go_wp2_with fail
  refine (gcd_n (arr_one (K := Ka) (h_x.below hS) rfl) (by omega) (by omega)).mono ?_
  rintro e u21 ⟨vv, rfl, _, hbk0, hn⟩
  have hbk := below_on (below_alloc1 _ _) hbk0
  clear hbk0
  replace hn := hn.le (base' := W5.heap.size) (Nat.le_trans hS.size (size_alloc_le _ _))
  replace hS := below_on hS hbk
  clear c_a0 c_a1 c_b0 c_b1 c_x0 c_x1 c_y0 c_y1
  have HN := Lib.hid hn
  clear hn hbk
  obtain ⟨⟨⟨c_a0, c_a1⟩, ⟨c_b0, c_b1⟩, ⟨c_x0, c_x1⟩, ⟨c_y0, c_y1⟩⟩, _⟩ := HS0.out _ hS
  go_wp2_with fail
  refine (over_l HN.out).mono ?_
  rintro e u22 ⟨rfl, hwr⟩
  replace hS := hwr.on HN.out hS (Nat.le_refl _)
  clear hwr
  clear c_a0 c_a1 c_b0 c_b1 c_x0 c_x1 c_y0 c_y1
  obtain ⟨⟨⟨c_a0, c_a1⟩, ⟨c_b0, c_b1⟩, ⟨c_x0, c_x1⟩, ⟨c_y0, c_y1⟩⟩, _⟩ := HS0.out _ hS
  go_wp2_with fail
  refine (gcd_n (arr_two (K := Ka + Kb) ((h_x.below hS).le (by omega)) ((h_y.below hS).le (by omega)) rfl) (by omega) (by omega)).mono ?_
  rintro e u23 ⟨vv, rfl, _, hbk0, hn⟩
  have hbk := below_on (below_alloc1 _ _) hbk0
  clear hbk0
  replace hn := hn.le (base' := W5.heap.size) (Nat.le_trans hS.size (size_alloc_le _ _))
  replace hS := below_on hS hbk
  clear c_a0 c_a1 c_b0 c_b1 c_x0 c_x1 c_y0 c_y1
  have HN := Lib.hid hn
  clear hn hbk
  obtain ⟨⟨⟨c_a0, c_a1⟩, ⟨c_b0, c_b1⟩, ⟨c_x0, c_x1⟩, ⟨c_y0, c_y1⟩⟩, _⟩ := HS0.out _ hS
  go_wp2_with fail
  refine (over_l HN.out).mono ?_
  rintro e u24 ⟨rfl, hwr⟩
  replace hS := hwr.on HN.out hS (Nat.le_refl _)
  clear hwr
  clear c_a0 c_a1 c_b0 c_b1 c_x0 c_x1 c_y0 c_y1
  obtain ⟨⟨⟨c_a0, c_a1⟩, ⟨c_b0, c_b1⟩, ⟨c_x0, c_x1⟩, ⟨c_y0, c_y1⟩⟩, _⟩ := HS0.out _ hS
  go_wp2_with fail
  refine (lcm_n (arr_one (K := Ka) (h_x.below hS) rfl) (by omega) (by omega)).mono ?_
  rintro e u25 ⟨vv, rfl, _, hbk0, hn⟩
  have hbk := below_on (below_alloc1 _ _) hbk0
  clear hbk0
  replace hn := hn.le (base' := W5.heap.size) (Nat.le_trans hS.size (size_alloc_le _ _))
  replace hS := below_on hS hbk
  clear c_a0 c_a1 c_b0 c_b1 c_x0 c_x1 c_y0 c_y1
  have HN := Lib.hid hn
  clear hn hbk
  obtain ⟨⟨⟨c_a0, c_a1⟩, ⟨c_b0, c_b1⟩, ⟨c_x0, c_x1⟩, ⟨c_y0, c_y1⟩⟩, _⟩ := HS0.out _ hS
  go_wp2_with fail
  refine (over_l HN.out).mono ?_
  rintro e u26 ⟨rfl, hwr⟩
  replace hS := hwr.on HN.out hS (Nat.le_refl _)
  clear hwr
  clear c_a0 c_a1 c_b0 c_b1 c_x0 c_x1 c_y0 c_y1
  obtain ⟨⟨⟨c_a0, c_a1⟩, ⟨c_b0, c_b1⟩, ⟨c_x0, c_x1⟩, ⟨c_y0, c_y1⟩⟩, _⟩ := HS0.out _ hS
  go_wp2_with fail
  refine (lcm_n (arr_two (K := Ka + Kb) ((h_x.below hS).le (by omega)) ((h_y.below hS).le (by omega)) rfl) (by omega) (by omega)).mono ?_
  rintro e u27 ⟨vv, rfl, _, hbk0, hn⟩
  have hbk := below_on (below_alloc1 _ _) hbk0
  clear hbk0
  replace hn := hn.le (base' := W5.heap.size) (Nat.le_trans hS.size (size_alloc_le _ _))
  replace hS := below_on hS hbk
  clear c_a0 c_a1 c_b0 c_b1 c_x0 c_x1 c_y0 c_y1
  have HN := Lib.hid hn
  clear hn hbk
  obtain ⟨⟨⟨c_a0, c_a1⟩, ⟨c_b0, c_b1⟩, ⟨c_x0, c_x1⟩, ⟨c_y0, c_y1⟩⟩, _⟩ := HS0.out _ hS
  go_wp2_with fail
  refine (over_l HN.out).mono ?_
  rintro e u28 ⟨rfl, hwr⟩
  replace hS := hwr.on HN.out hS (Nat.le_refl _)
  clear hwr
  clear c_a0 c_a1 c_b0 c_b1 c_x0 c_x1 c_y0 c_y1
  obtain ⟨⟨⟨c_a0, c_a1⟩, ⟨c_b0, c_b1⟩, ⟨c_x0, c_x1⟩, ⟨c_y0, c_y1⟩⟩, _⟩ := HS0.out _ hS
  go_wp2_with fail
  refine (of_n _ 5 (by omega)).mono ?_
  rintro e u29 ⟨vv, rfl, _, hbk, hn⟩
  replace hn := hn.le (base' := W5.heap.size) (hS.size)
  replace hS := below_on hS hbk
  clear c_a0 c_a1 c_b0 c_b1 c_x0 c_x1 c_y0 c_y1
  have HN := Lib.hid hn
  clear hn hbk
  obtain ⟨⟨⟨c_a0, c_a1⟩, ⟨c_b0, c_b1⟩, ⟨c_x0, c_x1⟩, ⟨c_y0, c_y1⟩⟩, _⟩ := HS0.out _ hS
  go_wp2_with fail
  refine (over_l HN.out).mono ?_
  rintro e u30 ⟨rfl, hwr⟩
  replace hS := hwr.on HN.out hS (Nat.le_refl _)
  clear hwr
  clear c_a0 c_a1 c_b0 c_b1 c_x0 c_x1 c_y0 c_y1
  obtain ⟨⟨⟨c_a0, c_a1⟩, ⟨c_b0, c_b1⟩, ⟨c_x0, c_x1⟩, ⟨c_y0, c_y1⟩⟩, _⟩ := HS0.out _ hS
  go_wp2_with fail
  refine (of_i _ 5 (by omega)).mono ?_
  rintro e u31 ⟨vv, rfl, hv, hbk⟩
  obtain ⟨dfive, Afive, mfive, kfive, rfl, HD_five, hg_five⟩ := hv.form
  clear hv
  replace hS := below_on hS hbk
  clear c_a0 c_a1 c_b0 c_b1 c_x0 c_x1 c_y0 c_y1
  clear hbk
  go_upto_region 20 with (fail)
  obtain ⟨W32, hWk, p_five, hbv⟩ := var_new u31 dfive Afive mfive kfive
  rw [← hWk]
  obtain ⟨b_five, hbe⟩ : ∃ b, b = u31.heap.size := ⟨_, rfl⟩
  rw [← hbe] at p_five ⊢
  replace hS := below_on hS hbv
  replace p_a := p_a.below hS
  replace h_a := h_a.below hS
  replace p_b := p_b.below hS
  replace h_b := h_b.below hS
  replace p_x := p_x.below hS
  replace h_x := h_x.below hS
  replace p_y := p_y.below hS
  replace h_y := h_y.below hS
  replace r_a := r_a.below hS
  replace r_b := r_b.below hS
  replace L_x := Lib.hid (Lnt.below L_x.out hS)
  replace L_y := Lib.hid (Lnt.below L_y.out hS)
  have h_five := ICan.mk HD_five.out (hg_five.below hbv)
  replace hw := below_on hw hS
  clear hWk hbe hS HS0 hg_five HD_five hbv
  have hS0 : ∀ w', Below W32.heap.size W32 w' → (fun w' => ((w'.cell? ⟨b_a, 0, none⟩ = some (.bool sa) ∧ w'.cell? ⟨b_a, 1, none⟩ = some (.slice Aa ma ka)) ∧ (w'.cell? ⟨b_b, 0, none⟩ = some (.bool sb) ∧ w'.cell? ⟨b_b, 1, none⟩ = some (.slice Ab mb kb)) ∧ (w'.cell? ⟨b_x, 0, none⟩ = some (.bool ssa) ∧ w'.cell? ⟨b_x, 1, none⟩ = some (.slice (some ⟨gx, 0, none⟩) m_x (m_x + 2))) ∧ (w'.cell? ⟨b_y, 0, none⟩ = some (.bool ssb) ∧ w'.cell? ⟨b_y, 1, none⟩ = some (.slice (some ⟨gy, 0, none⟩) m_y (m_y + 2))) ∧ (w'.cell? ⟨b_five, 0, none⟩ = some (.bool dfive) ∧ w'.cell? ⟨b_five, 1, none⟩ = some (.slice Afive mfive kfive))) ∧ Below W32.heap.size W32 w') w' := fun w' h => ⟨⟨⟨(p_a.below h).facts.2.2.1, (p_a.below h).facts.2.2.2⟩, ⟨(p_b.below h).facts.2.2.1, (p_b.below h).facts.2.2.2⟩, ⟨(p_x.below h).facts.2.2.1, (p_x.below h).facts.2.2.2⟩, ⟨(p_y.below h).facts.2.2.1, (p_y.below h).facts.2.2.2⟩, ⟨(p_five.below h).facts.2.2.1, (p_five.below h).facts.2.2.2⟩⟩, h⟩
  have HS0 := Lib.hid hS0
  clear hS0
  have hS : Below W32.heap.size W32 W32 := Below.refl _ _
  obtain ⟨⟨⟨c_a0, c_a1⟩, ⟨c_b0, c_b1⟩, ⟨c_x0, c_x1⟩, ⟨c_y0, c_y1⟩, ⟨c_five0, c_five1⟩⟩, _⟩ := HS0.out _ hS
  go_wp2_with fail
  refine (stays_l (Lnt.below L_x.out hS) (r_a.below hS) HLNx.out (by omega) hlex).mono ?_
  rintro e u33 ⟨rfl, hbk⟩
  replace hS := below_on hS hbk
  clear c_a0 c_a1 c_b0 c_b1 c_x0 c_x1 c_y0 c_y1 c_five0 c_five1
  clear hbk
  obtain ⟨⟨⟨c_a0, c_a1⟩, ⟨c_b0, c_b1⟩, ⟨c_x0, c_x1⟩, ⟨c_y0, c_y1⟩, ⟨c_five0, c_five1⟩⟩, _⟩ := HS0.out _ hS
  go_wp2_with fail
  refine (stays_l (Lnt.below L_y.out hS) (r_b.below hS) HLNy.out (by omega) hley).mono ?_
  rintro e u34 ⟨rfl, hbk⟩
  replace hS := below_on hS hbk
  clear c_a0 c_a1 c_b0 c_b1 c_x0 c_x1 c_y0 c_y1 c_five0 c_five1
  clear hbk
  obtain ⟨⟨⟨c_a0, c_a1⟩, ⟨c_b0, c_b1⟩, ⟨c_x0, c_x1⟩, ⟨c_y0, c_y1⟩, ⟨c_five0, c_five1⟩⟩, _⟩ := HS0.out _ hS
  go_wp2_with fail
  refine (sign_r (h_b.below hS) (by omega)).mono ?_
  rintro e u35 ⟨rfl, hbk⟩
  rw [← Eσ.out]
  replace hS := below_on hS hbk
  clear c_a0 c_a1 c_b0 c_b1 c_x0 c_x1 c_y0 c_y1 c_five0 c_five1
  clear hbk
  go_upto_region 23 with (fail)
  have pf := p_five.below hS
  have hf := h_five.below hS
  have hT0 : ∀ w', Below u35.heap.size u35 w' → (fun w' => (w'.cell? ⟨b_five, 0, none⟩ = some (.bool dfive) ∧ w'.cell? ⟨b_five, 1, none⟩ = some (.slice Afive mfive kfive)) ∧ Below u35.heap.size u35 w') w' := fun w' h => ⟨⟨(pf.below h).facts.2.2.1, (pf.below h).facts.2.2.2⟩, h⟩
  have HT0 := Lib.hid hT0
  clear hT0 pf
  refine wp_region_noPanic ?_
  refine wp_region_held_drew (S := (fun w' => (w'.cell? ⟨b_five, 0, none⟩ = some (.bool dfive) ∧ w'.cell? ⟨b_five, 1, none⟩ = some (.slice Afive mfive kfive)) ∧ Below u35.heap.size u35 w')) (by kernel_rfl) ?_ (fun hHeld => ?_)
  · exact HT0.out _ (Below.refl _ _).drew
  (try dsimp only at hHeld)
  have hT : Below u35.heap.size u35 (World.drew u35) := (Below.refl _ _).drew
  refine take_at 0 (by kernel_rfl) (by kernel_rfl) (by kernel_rfl) (fun _ _ _ _ _ h => h) ⟨_, rfl⟩ (by with_reducible assumption) (fun o ho => ?_)
  simp only [List.getElem?_toArray, List.getElem?_cons_zero, Option.some.injEq] at ho
  subst ho
  refine ⟨?_, ⟨by rfl, ?_⟩, ?_⟩
  rotate_left
  · intro w hSw
    (try dsimp only at hSw)
    (go_simp; try with_reducible rfl)
  (try simp only [Act.put, List.setIfInBounds_toArray, List.set_cons_zero, List.set_cons_succ])
  refine take_at 1 (by kernel_rfl) (by kernel_rfl) (by kernel_rfl) (fun _ _ _ _ _ h => h) ⟨_, rfl⟩ (by with_reducible assumption) (fun o ho => ?_)
  simp only [List.getElem?_toArray, List.getElem?_cons_succ, List.getElem?_cons_zero, Option.some.injEq] at ho
  subst ho
  refine ⟨?_, ⟨by rfl, ?_⟩, ?_⟩
  rotate_left
  · intro w hSw
    (try dsimp only at hSw)
    (go_simp; try with_reducible rfl)
  (try simp only [Act.put, List.setIfInBounds_toArray, List.set_cons_zero, List.set_cons_succ])
  refine take_at 2 (by kernel_rfl) (by kernel_rfl) (by kernel_rfl) (fun _ _ _ _ _ h => h) ⟨_, rfl⟩ (by with_reducible assumption) (fun o ho => ?_)
  simp only [List.getElem?_toArray, List.getElem?_cons_succ, List.getElem?_cons_zero, Option.some.injEq] at ho
  subst ho
  refine ⟨?_, ⟨by rfl, ?_⟩, ?_⟩
  rotate_left
  · intro w hSw
    (try dsimp only at hSw)
    (go_simp; try with_reducible rfl)
  (try simp only [Act.put, List.setIfInBounds_toArray, List.set_cons_zero, List.set_cons_succ])
  refine take_at 3 (by kernel_rfl) (by kernel_rfl) (by kernel_rfl) (fun _ _ _ _ _ h => h) ⟨_, rfl⟩ (by with_reducible assumption) (fun o ho => ?_)
  simp only [List.getElem?_toArray, List.getElem?_cons_succ, List.getElem?_cons_zero, Option.some.injEq] at ho
  subst ho
  refine ⟨?_, ⟨by rfl, ?_⟩, ?_⟩
  rotate_left
  · intro w hSw
    (try dsimp only at hSw)
    (go_simp; try with_reducible rfl)
  (try simp only [Act.put, List.setIfInBounds_toArray, List.set_cons_zero, List.set_cons_succ])
  refine take_at 4 (by kernel_rfl) (by kernel_rfl) (by kernel_rfl) (fun _ _ _ _ _ h => h) ⟨_, rfl⟩ (by with_reducible assumption) (fun o ho => ?_)
  simp only [List.getElem?_toArray, List.getElem?_cons_succ, List.getElem?_cons_zero, Option.some.injEq] at ho
  subst ho
  refine ⟨?_, ⟨by rfl, ?_⟩, ?_⟩
  rotate_left
  · intro w hSw
    (try dsimp only at hSw)
    (go_simp; try with_reducible rfl)
  (try simp only [Act.put, List.setIfInBounds_toArray, List.set_cons_zero, List.set_cons_succ])
  refine take_at 5 (by kernel_rfl) (by kernel_rfl) (by kernel_rfl) (fun _ _ _ _ _ h => h) ⟨_, rfl⟩ (by with_reducible assumption) (fun o ho => ?_)
  simp only [List.getElem?_toArray, List.getElem?_cons_succ, List.getElem?_cons_zero, Option.some.injEq] at ho
  subst ho
  refine ⟨?_, ⟨by rfl, ?_⟩, ?_⟩
  rotate_left
  · intro w hSw
    (try dsimp only at hSw)
    (go_simp; try with_reducible rfl)
  (try simp only [Act.put, List.setIfInBounds_toArray, List.set_cons_zero, List.set_cons_succ])
  refine take_at 6 (by kernel_rfl) (by kernel_rfl) (by kernel_rfl) (fun _ _ _ _ _ h => h) ⟨_, rfl⟩ (by with_reducible assumption) (fun o ho => ?_)
  simp only [List.getElem?_toArray, List.getElem?_cons_succ, List.getElem?_cons_zero, Option.some.injEq] at ho
  subst ho
  refine ⟨?_, ⟨by rfl, ?_⟩, ?_⟩
  rotate_left
  · intro w hSw
    (try dsimp only at hSw)
    (go_simp; try with_reducible rfl)
  (try simp only [Act.put, List.setIfInBounds_toArray, List.set_cons_zero, List.set_cons_succ])
  refine take_at 7 (by kernel_rfl) (by kernel_rfl) (by kernel_rfl) (fun _ _ _ _ _ h => h) ⟨_, rfl⟩ (by with_reducible assumption) (fun o ho => ?_)
  simp only [List.getElem?_toArray, List.getElem?_cons_succ, List.getElem?_cons_zero, Option.some.injEq] at ho
  subst ho
  refine ⟨?_, ⟨by rfl, ?_⟩, ?_⟩
  rotate_left
  · intro w hSw
    (try dsimp only at hSw)
    (go_simp; try with_reducible rfl)
  (try simp only [Act.put, List.setIfInBounds_toArray, List.set_cons_zero, List.set_cons_succ])
  refine take_at 8 (by kernel_rfl) (by kernel_rfl) (by kernel_rfl) (fun _ _ _ _ _ h => h) ⟨_, rfl⟩ (by with_reducible assumption) (fun o ho => ?_)
  simp only [List.getElem?_toArray, List.getElem?_cons_succ, List.getElem?_cons_zero, Option.some.injEq] at ho
  subst ho
  refine ⟨?_, ⟨by rfl, ?_⟩, ?_⟩
  rotate_left
  · intro w hSw
    (try dsimp only at hSw)
    (go_simp; try with_reducible rfl)
  (try simp only [Act.put, List.setIfInBounds_toArray, List.set_cons_zero, List.set_cons_succ])
  refine wpAnyH_ready (rs := [9]) (by kernel_rfl) (by simp) ?_
  refine ready_at 9 ⟨_, rfl⟩ (fun o ho K hK => ?_) AllReadyH.nil
  simp only [List.getElem?_toArray, List.getElem?_cons_succ, List.getElem?_cons_zero, Option.some.injEq] at ho
  subst ho
  go_simp
  go_at_call 42
  refine (of_r _ 5 (by omega)).mono ?_
  rintro e wn ⟨t1, rfl, h_t1, hb⟩
  replace hT := below_on hT hb
  refine hK.out _ _ ?_ (fun hHeld2 => ?_)
  · (try dsimp only)
    exact HT0.out _ hT
  replace hHeld := hHeld2
  clear hK K hHeld2
  (try dsimp only at hHeld)
  (try simp only [List.setIfInBounds_toArray, List.set_cons_zero, List.set_cons_succ])
  refine wpAnyH_ready (rs := [10]) (by kernel_rfl) (by simp) ?_
  refine ready_at 10 ⟨_, rfl⟩ (fun o ho K hK => ?_) AllReadyH.nil
  simp only [List.getElem?_toArray, List.getElem?_cons_succ, List.getElem?_cons_zero, Option.some.injEq] at ho
  subst ho
  go_simp
  go_at_call 15
  refine (is_l (hf.below hT) h_t1.iv (by omega) rfl).mono ?_
  rintro e wn2 ⟨rfl, hb2⟩
  replace hT := below_on hT hb2
  refine hK.out _ _ ?_ (fun hHeld2 => ?_)
  · (try dsimp only)
    exact HT0.out _ hT
  replace hHeld := hHeld2
  clear hK K hHeld2
  (try dsimp only at hHeld)
  (try simp only [List.setIfInBounds_toArray, List.set_cons_zero, List.set_cons_succ])
  refine take_at 11 (by kernel_rfl) (by kernel_rfl) (by kernel_rfl) (fun _ _ _ _ _ h => h) ⟨_, rfl⟩ (by with_reducible assumption) (fun o ho => ?_)
  simp only [List.getElem?_toArray, List.getElem?_cons_succ, List.getElem?_cons_zero, Option.some.injEq] at ho
  subst ho
  refine ⟨?_, ⟨by rfl, ?_⟩, ?_⟩
  rotate_left
  · intro w hSw
    (try dsimp only at hSw)
    (go_simp; try with_reducible rfl)
  (try simp only [Act.put, List.setIfInBounds_toArray, List.set_cons_zero, List.set_cons_succ])
  refine take_at 12 (by kernel_rfl) (by kernel_rfl) (by kernel_rfl) (fun _ _ _ _ _ h => h) ⟨_, rfl⟩ (by with_reducible assumption) (fun o ho => ?_)
  simp only [List.getElem?_toArray, List.getElem?_cons_succ, List.getElem?_cons_zero, Option.some.injEq] at ho
  subst ho
  refine ⟨?_, ⟨by rfl, ?_⟩, ?_⟩
  rotate_left
  · intro w hSw
    (try dsimp only at hSw)
    (go_simp; try with_reducible rfl)
  (try simp only [Act.put, List.setIfInBounds_toArray, List.set_cons_zero, List.set_cons_succ])
  refine take_at 13 (by kernel_rfl) (by kernel_rfl) (by kernel_rfl) (fun _ _ _ _ _ h => h) ⟨_, rfl⟩ (by with_reducible assumption) (fun o ho => ?_)
  simp only [List.getElem?_toArray, List.getElem?_cons_succ, List.getElem?_cons_zero, Option.some.injEq] at ho
  subst ho
  refine ⟨?_, ⟨by rfl, ?_⟩, ?_⟩
  rotate_left
  · intro w hSw
    (try dsimp only at hSw)
    (go_simp; try with_reducible rfl)
  (try simp only [Act.put, List.setIfInBounds_toArray, List.set_cons_zero, List.set_cons_succ])
  refine take_at 14 (by kernel_rfl) (by kernel_rfl) (by kernel_rfl) (fun _ _ _ _ _ h => h) ⟨_, rfl⟩ (by with_reducible assumption) (fun o ho => ?_)
  simp only [List.getElem?_toArray, List.getElem?_cons_succ, List.getElem?_cons_zero, Option.some.injEq] at ho
  subst ho
  refine ⟨?_, ⟨by rfl, ?_⟩, ?_⟩
  rotate_left
  · intro w hSw
    (try dsimp only at hSw)
    (go_simp; try with_reducible rfl)
  (try simp only [Act.put, List.setIfInBounds_toArray, List.set_cons_zero, List.set_cons_succ])
  refine take_not 15 (by kernel_rfl) (by kernel_rfl) (by kernel_rfl) (fun _ _ _ _ _ h => h) ⟨_, rfl⟩ (by with_reducible assumption) (fun o ho => ?_)
  simp only [List.getElem?_toArray, List.getElem?_cons_succ, List.getElem?_cons_zero, Option.some.injEq] at ho
  subst ho
  refine ⟨by rfl, ?_⟩
  (try simp only [Act.put, List.setIfInBounds_toArray, List.set_cons_zero, List.set_cons_succ])
  refine take_not 16 (by kernel_rfl) (by kernel_rfl) (by kernel_rfl) (fun _ _ _ _ _ h => h) ⟨_, rfl⟩ (by with_reducible assumption) (fun o ho => ?_)
  simp only [List.getElem?_toArray, List.getElem?_cons_succ, List.getElem?_cons_zero, Option.some.injEq] at ho
  subst ho
  refine ⟨by rfl, ?_⟩
  (try simp only [Act.put, List.setIfInBounds_toArray, List.set_cons_zero, List.set_cons_succ])
  refine take_at 17 (by kernel_rfl) (by kernel_rfl) (by kernel_rfl) (fun _ _ _ _ _ h => h) ⟨_, rfl⟩ (by with_reducible assumption) (fun o ho => ?_)
  simp only [List.getElem?_toArray, List.getElem?_cons_succ, List.getElem?_cons_zero, Option.some.injEq] at ho
  subst ho
  refine ⟨?_, ⟨by rfl, ?_⟩, ?_⟩
  rotate_left
  · intro w hSw
    (try dsimp only at hSw)
    (go_simp; try with_reducible rfl)
  (try simp only [Act.put, List.setIfInBounds_toArray, List.set_cons_zero, List.set_cons_succ])
  refine take_at 18 (by kernel_rfl) (by kernel_rfl) (by kernel_rfl) (fun _ _ _ _ _ h => h) ⟨_, rfl⟩ (by with_reducible assumption) (fun o ho => ?_)
  simp only [List.getElem?_toArray, List.getElem?_cons_succ, List.getElem?_cons_zero, Option.some.injEq] at ho
  subst ho
  refine ⟨?_, ⟨by rfl, ?_⟩, ?_⟩
  rotate_left
  · intro w hSw
    (try dsimp only at hSw)
    (go_simp; try with_reducible rfl)
  (try simp only [Act.put, List.setIfInBounds_toArray, List.set_cons_zero, List.set_cons_succ])
  refine take_at 19 (by kernel_rfl) (by kernel_rfl) (by kernel_rfl) (fun _ _ _ _ _ h => h) ⟨_, rfl⟩ (by with_reducible assumption) (fun o ho => ?_)
  simp only [List.getElem?_toArray, List.getElem?_cons_succ, List.getElem?_cons_zero, Option.some.injEq] at ho
  subst ho
  refine ⟨?_, ⟨by rfl, ?_⟩, ?_⟩
  rotate_left
  · intro w hSw
    (try dsimp only at hSw)
    (go_simp; try with_reducible rfl)
  (try simp only [Act.put, List.setIfInBounds_toArray, List.set_cons_zero, List.set_cons_succ])
  refine wpAnyH_done (by kernel_rfl) ?_ _
  refine NoPanic.normal ?_
  go_wp2_with fail
  go_ret
  exact ⟨rfl, below_on (below_on hw hS) hT⟩
end Go.Proofs.YtiidghfkdjefgaaDoor

/-
  zint.Norm, Neg, Abs, Of: contracts.
-/
import Derived.Test.YtiidghfkdjefgaaDoorZMath
namespace Go.Proofs.YtiidghfkdjefgaaDoor
open Go.RowKit

/-- v is any number, of value z. -/
def IV (w : World) (v : Value) (K : Nat) (z : Int) : Prop := ∃ s x, IVal w v K s x ∧ sgn s x = z
section
variable {w w' : World} {v : Value} {K L x : Nat} {s : Bool} {z : Int}
theorem IV.below (h : IV w v K z) (hb : Below w.heap.size w w') : IV w' v K z := by
  obtain ⟨s, x, h, e⟩ := h
  exact ⟨s, x, h.below hb, e⟩
theorem ICan.iv (h : ICan w v K z) : IV w v K z := ⟨_, _, h.val, sgn_abs z⟩
theorem Mag.le (h : Mag w v K x) (hk : K ≤ L) : Mag w v L x := by
  obtain ⟨A, n, c, l, e, hp, hs, hx, hn⟩ := h
  exact ⟨A, n, c, l, e, hp, hs, hx, Nat.le_trans hn hk⟩
theorem Bag.le (h : Bag w v K x) (hk : K ≤ L) : Bag w v L x := by
  obtain ⟨A, n, c, e, hp, hs, hn⟩ := h
  exact ⟨A, n, c, e, hp, hs, Nat.le_trans hn hk⟩
theorem IV.le (h : IV w v K z) (hk : K ≤ L) : IV w v L z := by
  obtain ⟨s, x, ⟨sl, e, hm⟩, hz⟩ := h
  exact ⟨s, x, ⟨sl, e, hm.le hk⟩, hz⟩
theorem ICan.le (h : ICan w v K z) (hk : K ≤ L) : ICan w v L z := by
  obtain ⟨sl, e, hm⟩ := h
  exact ⟨sl, e, hm.le hk⟩
theorem Bag.slice (h : Bag w v K x) : ∃ A n c, v = .slice A n c := by
  obtain ⟨A, n, c, e, _⟩ := h
  exact ⟨A, n, c, e⟩
end
theorem below_on {wk w w' : World} (h : Below wk.heap.size wk w) (hb : Below w.heap.size w w') : Below wk.heap.size wk w' := h.trans (hb.mono h.size)
theorem below_alloc1 (w : World) (o : Obj) : Below w.heap.size w (w.alloc o) := (Below.refl _ _).alloc (Nat.le_refl _) o
theorem below_drew1 (w : World) : Below w.heap.size w w.drew := (Below.refl _ _).drew
theorem s_below {V : Prop} {B : Nat} {wk w : World} (h : V ∧ Below B wk w) : Below B wk w := h.2
theorem below_alloc2 (w : World) (o p : Obj) : Below w.heap.size w ((w.alloc o).alloc p) := below_on (below_alloc1 w o) (below_alloc1 _ p)
theorem below_alloc3 (w : World) (o p q : Obj) : Below w.heap.size w (((w.alloc o).alloc p).alloc q) := below_on (below_alloc2 w o p) (below_alloc1 _ q)
theorem Pair.keep {W w' : World} {b B : Nat} {t : TypeId} {v0 v1 : Value} (h : Pair W b t v0 v1) (hb : Below B W w') (hlt : b < B) : Pair w' b t v0 v1 := (hb.block b hlt).trans h
theorem Pair.drew {W : World} {b : Nat} {t : TypeId} {v0 v1 : Value} (h : Pair W b t v0 v1) : Pair W.drew b t v0 v1 := h
theorem on_go {B : Nat} {W w w' : World} (hB : B ≤ W.heap.size) (h : Below B W w) (hb : Below w.heap.size w w') : Below B W w' := h.trans (hb.mono (Nat.le_trans hB h.size))
theorem enter2 (w : World) (t : TypeId) (x0 x1 y0 y1 : Value) : ∃ W : World, W = ((w.alloc (.cells #[x0, x1] t)).alloc (.cells #[y0, y1] t)).alloc (.cells #[.bool false, .slice none 0 0] t) ∧ Pair W w.heap.size t x0 x1 ∧ Pair W (w.heap.size + 1) t y0 y1 ∧
    Pair W (w.heap.size + 2) t (.bool false) (.slice none 0 0) ∧ W.heap.size = w.heap.size + 3 ∧ Below w.heap.size w W := by
  have h2 : (w.alloc (.cells #[x0, x1] t)).heap.size = w.heap.size + 1 := by simp
  have h3 : ((w.alloc (.cells #[x0, x1] t)).alloc (.cells #[y0, y1] t)).heap.size = w.heap.size + 2 := by simp
  refine ⟨_, rfl, ((Pair.new w t x0 x1).alloc _).alloc _, ?_, ?_, by simp, below_alloc3 _ _ _ _⟩
  · have := (Pair.new (w.alloc (.cells #[x0, x1] t)) t y0 y1).alloc (.cells #[.bool false, .slice none 0 0] t)
    rwa [h2] at this
  · have := Pair.new ((w.alloc (.cells #[x0, x1] t)).alloc (.cells #[y0, y1] t)) t (.bool false) (.slice none 0 0)
    rwa [h3] at this
theorem enter2r (w : World) (t : TypeId) (x0 x1 y0 y1 : Value) : ∃ W : World, W = (w.alloc (.cells #[x0, x1] t)).alloc (.cells #[y0, y1] t) ∧ Pair W w.heap.size t x0 x1 ∧ Pair W (w.heap.size + 1) t y0 y1 ∧ W.heap.size = w.heap.size + 2 ∧ Below w.heap.size w W := by
  have h2 : (w.alloc (.cells #[x0, x1] t)).heap.size = w.heap.size + 1 := by simp
  refine ⟨_, rfl, (Pair.new w t x0 x1).alloc _, ?_, by simp, below_alloc2 _ _ _⟩
  have := Pair.new (w.alloc (.cells #[x0, x1] t)) t y0 y1
  rwa [h2] at this
/-- The number's sign and list, what they say laid aside. -/
theorem ICan.form {w : World} {v : Value} {K : Nat} {z : Int} (h : ICan w v K z) : ∃ d A n c, v = .agg #[.bool d, .slice A n c] ∧ Hid (d = decide (z < 0)) ∧ Bag w (.slice A n c) K z.natAbs := by
  obtain ⟨sl, rfl, hg⟩ := h
  obtain ⟨A, n, c, rfl⟩ := hg.slice
  exact ⟨_, A, n, c, rfl, Lib.hid rfl, hg⟩
theorem ICan.mk {w : World} {d : Bool} {sl : Value} {K : Nat} {z : Int} (hd : d = decide (z < 0)) (hg : Bag w sl K z.natAbs) : ICan w (.agg #[.bool d, sl]) K z := by
  subst hd
  exact ⟨sl, rfl, hg⟩
theorem Mag.slice {w : World} {v : Value} {K x : Nat} (h : Mag w v K x) : ∃ A n c, v = .slice A n c := by
  obtain ⟨A, n, c, l, e, _⟩ := h
  exact ⟨A, n, c, e⟩
/-- Two cells of another block are written. -/
theorem Pair.far {w : World} {b b' : Nat} {t : TypeId} {v0 v1 : Value} (h : Pair w b t v0 v1) (hne : b ≠ b') (u0 u1 : Value) : Pair ((w.setCell ⟨b', 0, none⟩ u0).setCell ⟨b', 1, none⟩ u1) b t v0 v1 := by
  have h1 : ((w.setCell ⟨b', 0, none⟩ u0).setCell ⟨b', 1, none⟩ u1).heap[b]? = w.heap[b]? := by
    have e1 : ∀ (w : World) (o : Nat) (u : Value), (w.setCell ⟨b', o, none⟩ u).heap[b]? = w.heap[b]? := fun w o u => Below.heap_setCell w ⟨b', o, none⟩ u b hne
    rw [e1, e1]
  exact h1.trans h
theorem Bag.len {w : World} {A : Option Addr} {n c K x : Nat} (h : Bag w (.slice A n c) K x) : n = (N.ofN x).length := by
  obtain ⟨A', n', c', e, _, hs, _⟩ := h
  injection e with _ e _
  rw [e, hs.len]
set_option maxRecDepth 100000 in
set_option maxHeartbeats 800000 in
theorem norm_n {w : World} {v : Value} {K : Nat} {z : Int} (h : IV w v K z) (hK : K ≤ 17592186044416) :
    Calls Tryd.prog 39 #[v] w fun e w' => ∃ u, e = .returned u ∧ ICan w' u K (z) ∧ Below w.heap.size w w' ∧ NwI w.heap.size w' u := by
  obtain ⟨s, x, ⟨sl, rfl, hm⟩, rfl⟩ := h
  go_enter Tryd.func39, Tryd.ntmps39
  go_wp2_with fail
  have hb0 := below_alloc2 w (.cells #[.bool s, sl] 24) (.cells #[.bool false, .slice none 0 0] 24)
  have hp0 := Pair.new (w.alloc (.cells #[.bool s, sl] 24)) 24 (.bool false) (.slice none 0 0)
  refine (made_n _ s sl K x (hm.below hb0) (by omega)).mono ?_
  rintro e w1 ⟨u, rfl, hu, hb1, hn⟩
  have HN := Lib.hid (hn.le (base' := w.heap.size) hb0.size)
  clear hn
  obtain ⟨d, A, n, c, rfl, HD, hg⟩ := hu.form
  clear hu
  have hp1 := hp0.below hb1
  have hbw := below_on hb0 hb1
  obtain ⟨f0, f1, c0, c1⟩ := hp1.facts
  simp only [World.size_alloc] at hp1 f0 f1 c0 c1
  clear hp0 hb0 hb1
  go_wp2_with fail
  refine bodyPost_ret (results_cell_row rfl _ _ _ _ _ _ _ rfl (hp1.set _ _) Tryd.underlying24 rfl sizeInt) rfl ?_
  exact ⟨_, rfl, ICan.mk HD.out (hg.pair hp1 _ _), below_pair hbw (by omega) _ _, HN.out.pair hp1 _ _⟩
theorem norm_i {w : World} {v : Value} {K : Nat} {z : Int} (h : IV w v K z) (hK : K ≤ 17592186044416) :
    Calls Tryd.prog 39 #[v] w fun e w' => ∃ u, e = .returned u ∧ ICan w' u K (z) ∧ Below w.heap.size w w' :=
  (norm_n h hK).mono fun _ _ ⟨u, h1, h2, h3, _⟩ => ⟨u, h1, h2, h3⟩
set_option maxRecDepth 100000 in
set_option maxHeartbeats 800000 in
theorem neg_n {w : World} {v : Value} {K : Nat} {z : Int} (h : IV w v K z) (hK : K ≤ 17592186044416) :
    Calls Tryd.prog 28 #[v] w fun e w' => ∃ u, e = .returned u ∧ ICan w' u K (-z) ∧ Below w.heap.size w w' ∧ NwI w.heap.size w' u := by
  obtain ⟨s, x, ⟨sl, rfl, hm⟩, rfl⟩ := h
  go_enter Tryd.func28, Tryd.ntmps28
  go_wp2_with fail
  have hb0 := below_alloc2 w (.cells #[.bool s, sl] 24) (.cells #[.bool false, .slice none 0 0] 24)
  have hp0 := Pair.new (w.alloc (.cells #[.bool s, sl] 24)) 24 (.bool false) (.slice none 0 0)
  refine (made_n _ (!s) sl K x (hm.below hb0) (by omega)).mono ?_
  rintro e w1 ⟨u, rfl, hu, hb1, hn⟩
  have HN := Lib.hid (hn.le (base' := w.heap.size) hb0.size)
  clear hn
  rw [show sgn (!s) x = -(sgn s x) by exact sgn_not s x] at hu
  obtain ⟨d, A, n, c, rfl, HD, hg⟩ := hu.form
  clear hu
  have hp1 := hp0.below hb1
  have hbw := below_on hb0 hb1
  obtain ⟨f0, f1, c0, c1⟩ := hp1.facts
  simp only [World.size_alloc] at hp1 f0 f1 c0 c1
  clear hp0 hb0 hb1
  go_wp2_with fail
  refine bodyPost_ret (results_cell_row rfl _ _ _ _ _ _ _ rfl (hp1.set _ _) Tryd.underlying24 rfl sizeInt) rfl ?_
  exact ⟨_, rfl, ICan.mk HD.out (hg.pair hp1 _ _), below_pair hbw (by omega) _ _, HN.out.pair hp1 _ _⟩
theorem neg_i {w : World} {v : Value} {K : Nat} {z : Int} (h : IV w v K z) (hK : K ≤ 17592186044416) :
    Calls Tryd.prog 28 #[v] w fun e w' => ∃ u, e = .returned u ∧ ICan w' u K (-z) ∧ Below w.heap.size w w' :=
  (neg_n h hK).mono fun _ _ ⟨u, h1, h2, h3, _⟩ => ⟨u, h1, h2, h3⟩
set_option maxRecDepth 100000 in
set_option maxHeartbeats 800000 in
theorem abs_n {w : World} {v : Value} {K : Nat} {z : Int} (h : IV w v K z) (hK : K ≤ 17592186044416) :
    Calls Tryd.prog 29 #[v] w fun e w' => ∃ u, e = .returned u ∧ ICan w' u K ((z.natAbs : Int)) ∧ Below w.heap.size w w' ∧ NwI w.heap.size w' u := by
  obtain ⟨s, x, ⟨sl, rfl, hm⟩, rfl⟩ := h
  go_enter Tryd.func29, Tryd.ntmps29
  go_wp2_with fail
  have hb0 := below_alloc2 w (.cells #[.bool s, sl] 24) (.cells #[.bool false, .slice none 0 0] 24)
  have hp0 := Pair.new (w.alloc (.cells #[.bool s, sl] 24)) 24 (.bool false) (.slice none 0 0)
  refine (made_n _ false sl K x (hm.below hb0) (by omega)).mono ?_
  rintro e w1 ⟨u, rfl, hu, hb1, hn⟩
  have HN := Lib.hid (hn.le (base' := w.heap.size) hb0.size)
  clear hn
  rw [show sgn false x = ((sgn s x).natAbs : Int) by rw [abs_sgn, sgn_false]] at hu
  obtain ⟨d, A, n, c, rfl, HD, hg⟩ := hu.form
  clear hu
  have hp1 := hp0.below hb1
  have hbw := below_on hb0 hb1
  obtain ⟨f0, f1, c0, c1⟩ := hp1.facts
  simp only [World.size_alloc] at hp1 f0 f1 c0 c1
  clear hp0 hb0 hb1
  go_wp2_with fail
  refine bodyPost_ret (results_cell_row rfl _ _ _ _ _ _ _ rfl (hp1.set _ _) Tryd.underlying24 rfl sizeInt) rfl ?_
  exact ⟨_, rfl, ICan.mk HD.out (hg.pair hp1 _ _), below_pair hbw (by omega) _ _, HN.out.pair hp1 _ _⟩
theorem abs_i {w : World} {v : Value} {K : Nat} {z : Int} (h : IV w v K z) (hK : K ≤ 17592186044416) :
    Calls Tryd.prog 29 #[v] w fun e w' => ∃ u, e = .returned u ∧ ICan w' u K ((z.natAbs : Int)) ∧ Below w.heap.size w w' :=
  (abs_n h hK).mono fun _ _ ⟨u, h1, h2, h3, _⟩ => ⟨u, h1, h2, h3⟩
set_option maxRecDepth 100000 in
set_option maxHeartbeats 800000 in
theorem of_neg (w : World) (z : Int) (m : Nat) (hz : z = -(m : Int)) (h0 : 0 < m) (hm : m ≤ 9223372036854775808) :
    Calls Tryd.prog 37 #[.int .i64 z] w fun e w' => ∃ u, e = .returned u ∧ ICan w' u 2 z ∧ Below w.heap.size w w' ∧ NwI w.heap.size w' u := by
  have hlt : decide (z < 0) = true := decide_eq_true (by omega)
  go_enter Tryd.func37, Tryd.ntmps37
  go_wp2_with fail
  have hb0 := below_alloc1 w (.cells #[.bool false, .slice none 0 0] 24)
  have hp0 := Pair.new w 24 (.bool false) (.slice none 0 0)
  refine (of_v _ m _ (by simp [IntKind.wrap, IntKind.bits, IntKind.signed]; omega) (by omega)).mono ?_
  rintro e w1 ⟨v1, rfl, hv1, hb1⟩
  replace hv1 := hv1.bag.mag
  have hbw := below_on hb0 hb1
  replace hp0 := hp0.below hb1
  clear hb0 hb1
  go_wp2_with fail
  refine (made_n _ true v1 2 m hv1 (by omega)).mono ?_
  rintro e w2 ⟨u, rfl, hu, hb2, hn⟩
  have HN := Lib.hid (hn.le (base' := w.heap.size) hbw.size)
  clear hn
  rw [show sgn true m = z by rw [sgn_true]; exact hz.symm] at hu
  obtain ⟨d, A, n, c, rfl, HD, hg⟩ := hu.form
  clear hu
  have hp1 := hp0.below hb2
  replace hbw := below_on hbw hb2
  obtain ⟨f0, f1, c0, c1⟩ := hp1.facts
  clear hp0 hb2
  go_wp2_with fail
  refine bodyPost_ret (results_cell_row rfl _ _ _ _ _ _ _ rfl (hp1.set _ _) Tryd.underlying24 rfl sizeInt) rfl ?_
  exact ⟨_, rfl, ICan.mk HD.out (hg.pair hp1 _ _), below_pair hbw (Nat.le_refl _) _ _, HN.out.pair hp1 _ _⟩
set_option maxRecDepth 100000 in
set_option maxHeartbeats 800000 in
theorem of_pos (w : World) (z : Int) (m : Nat) (hz : z = (m : Int)) (hm : m < 9223372036854775808) :
    Calls Tryd.prog 37 #[.int .i64 z] w fun e w' => ∃ u, e = .returned u ∧ ICan w' u 2 z ∧ Below w.heap.size w w' ∧ NwI w.heap.size w' u := by
  have hlt : decide (z < 0) = false := decide_eq_false (by omega)
  go_enter Tryd.func37, Tryd.ntmps37
  go_wp2_with fail
  have hb0 := below_alloc1 w (.cells #[.bool false, .slice none 0 0] 24)
  have hp0 := Pair.new w 24 (.bool false) (.slice none 0 0)
  refine (of_v _ m _ (by go_num) (by omega)).mono ?_
  rintro e w1 ⟨v1, rfl, hv1, hb1⟩
  replace hv1 := hv1.bag.mag
  have hbw := below_on hb0 hb1
  replace hp0 := hp0.below hb1
  clear hb0 hb1
  go_wp2_with fail
  refine (made_n _ false v1 2 m hv1 (by omega)).mono ?_
  rintro e w2 ⟨u, rfl, hu, hb2, hn⟩
  have HN := Lib.hid (hn.le (base' := w.heap.size) hbw.size)
  clear hn
  rw [show sgn false m = z by rw [sgn_false]; exact hz.symm] at hu
  obtain ⟨d, A, n, c, rfl, HD, hg⟩ := hu.form
  clear hu
  have hp1 := hp0.below hb2
  replace hbw := below_on hbw hb2
  obtain ⟨f0, f1, c0, c1⟩ := hp1.facts
  clear hp0 hb2
  go_wp2_with fail
  refine bodyPost_ret (results_cell_row rfl _ _ _ _ _ _ _ rfl (hp1.set _ _) Tryd.underlying24 rfl sizeInt) rfl ?_
  exact ⟨_, rfl, ICan.mk HD.out (hg.pair hp1 _ _), below_pair hbw (Nat.le_refl _) _ _, HN.out.pair hp1 _ _⟩
theorem of_n (w : World) (z : Int) (h : -9223372036854775808 ≤ z ∧ z < 9223372036854775808) :
    Calls Tryd.prog 37 #[.int .i64 z] w fun e w' => ∃ u, e = .returned u ∧ ICan w' u 2 z ∧ Below w.heap.size w w' ∧ NwI w.heap.size w' u := by
  rcases Int.lt_or_le z 0 with h0 | h0
  · exact of_neg w z z.natAbs (by omega) (by omega) (by omega)
  · exact of_pos w z z.natAbs (by omega) (by omega)
theorem of_i (w : World) (z : Int) (h : -9223372036854775808 ≤ z ∧ z < 9223372036854775808) :
    Calls Tryd.prog 37 #[.int .i64 z] w fun e w' => ∃ u, e = .returned u ∧ ICan w' u 2 z ∧ Below w.heap.size w w' :=
  (of_n w z h).mono fun _ _ ⟨u, h1, h2, h3, _⟩ => ⟨u, h1, h2, h3⟩
end Go.Proofs.YtiidghfkdjefgaaDoor

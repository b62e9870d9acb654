/-
  zint.Gcd, Lcm: contracts.
-/
import Derived.Test.YtiidghfkdjefgaaDoorZTwo
import Derived.Deep.Cut
namespace Go.Proofs.YtiidghfkdjefgaaDoor
open Go.RowKit

set_option maxRecDepth 100000 in
set_option maxHeartbeats 1600000 in
theorem gcd1_n {w : World} {a b : Value} {K L : Nat} {x y : Int} (ha : IV w a K x) (hb : IV w b L y) (hK : K + L ≤ 8796093022208) :
    Calls Tryd.prog 73 #[a, b] w fun e w' => ∃ u, e = .returned u ∧ ICan w' u (K + L) ((Nat.gcd x.natAbs y.natAbs : Nat) : Int) ∧ Below w.heap.size w w' ∧ NwI w.heap.size w' u := by
  obtain ⟨s, m, ⟨sa, rfl, ha⟩, rfl⟩ := ha
  obtain ⟨t, n, ⟨sb, rfl, hb⟩, rfl⟩ := hb
  rw [natAbs_sgn, natAbs_sgn]
  obtain ⟨W, hW, p0, p1, p2, hsz, hbw⟩ := enter2 w 24 (.bool s) sa (.bool t) sb
  have HW := Lib.hid hW
  clear hW hsz
  go_enter Tryd.func73, Tryd.ntmps73
  go_wp2_with fail
  rw [← HW.out]
  refine (gcd_v (ha.below hbw).val (hb.below hbw).val (by omega) (by omega)).mono ?_
  rintro e w1 ⟨v1, rfl, hv1, hb1⟩
  replace hv1 := hv1.bag.mag
  replace p2 := p2.below hb1
  replace hbw := below_on hbw hb1
  clear hb1 p0 p1 HW
  go_wp2_with fail
  refine (made_n _ false v1 _ (Nat.gcd m n) hv1 (by omega)).mono ?_
  rintro e w2 ⟨u, rfl, hu, hb2, hn⟩
  have HN := Lib.hid (hn.le (base' := w.heap.size) hbw.size)
  clear hn
  rw [sgn_false] at hu
  obtain ⟨d, A, k, c, rfl, HD, hg⟩ := hu.form
  replace p2 := p2.below hb2
  replace hbw := below_on hbw hb2
  obtain ⟨f0, f1, c0, c1⟩ := p2.facts
  clear hb2 hu hv1
  go_wp2_with fail
  refine bodyPost_ret (results_cell_row rfl _ _ _ _ _ _ _ rfl (p2.set _ _) Tryd.underlying24 rfl sizeInt) rfl ?_
  exact ⟨_, rfl, ICan.mk HD.out (hg.pair p2 _ _), below_pair hbw (by omega) _ _, HN.out.pair p2 _ _⟩
set_option maxRecDepth 100000 in
set_option maxHeartbeats 1600000 in
theorem lcm1_n {w : World} {a b : Value} {K L : Nat} {x y : Int} (ha : IV w a K x) (hb : IV w b L y) (hK : K + L ≤ 8796093022208) :
    Calls Tryd.prog 75 #[a, b] w fun e w' => ∃ u, e = .returned u ∧ ICan w' u (K + L) ((Nat.lcm x.natAbs y.natAbs : Nat) : Int) ∧ Below w.heap.size w w' ∧ NwI w.heap.size w' u := by
  obtain ⟨s, m, ⟨sa, rfl, ha⟩, rfl⟩ := ha
  obtain ⟨t, n, ⟨sb, rfl, hb⟩, rfl⟩ := hb
  rw [natAbs_sgn, natAbs_sgn]
  obtain ⟨W, hW, p0, p1, p2, hsz, hbw⟩ := enter2 w 24 (.bool s) sa (.bool t) sb
  have HW := Lib.hid hW
  clear hW hsz
  go_enter Tryd.func75, Tryd.ntmps75
  go_wp2_with fail
  rw [← HW.out]
  refine (lcm_v (ha.below hbw).val (hb.below hbw).val (by omega) (by omega)).mono ?_
  rintro e w1 ⟨v1, rfl, hv1, hb1⟩
  replace hv1 := hv1.bag.mag
  replace p2 := p2.below hb1
  replace hbw := below_on hbw hb1
  clear hb1 p0 p1 HW
  go_wp2_with fail
  refine (made_n _ false v1 _ (Nat.lcm m n) hv1 (by omega)).mono ?_
  rintro e w2 ⟨u, rfl, hu, hb2, hn⟩
  have HN := Lib.hid (hn.le (base' := w.heap.size) hbw.size)
  clear hn
  rw [sgn_false] at hu
  obtain ⟨d, A, k, c, rfl, HD, hg⟩ := hu.form
  replace p2 := p2.below hb2
  replace hbw := below_on hbw hb2
  obtain ⟨f0, f1, c0, c1⟩ := p2.facts
  clear hb2 hu hv1
  go_wp2_with fail
  refine bodyPost_ret (results_cell_row rfl _ _ _ _ _ _ _ rfl (p2.set _ _) Tryd.underlying24 rfl sizeInt) rfl ?_
  exact ⟨_, rfl, ICan.mk HD.out (hg.pair p2 _ _), below_pair hbw (by omega) _ _, HN.out.pair p2 _ _⟩
/-- A list of numbers in memory. -/
def ArrI (w : World) (A : Option Addr) (n K : Nat) (zs : List Int) : Prop := zs.length = n ∧ (0 < n → ∃ b o, A = some ⟨b, o, none⟩ ∧ ∀ i, i < n → ∃ d B m c, w.cell? ⟨b, o + i * 2, none⟩ = some (.bool d) ∧ w.cell? ⟨b, o + i * 2 + 1, none⟩ = some (.slice B m c) ∧ IV w (.agg #[.bool d, .slice B m c]) K (zs.getD i 0))
theorem keep_cell {w w' : World} {p : Addr} {v : Value} (h : w.cell? p = some v) (hb : Below w.heap.size w w') : w'.cell? p = some v := (hb.cell (World.block_lt_of_cell? w _ h)).trans h
theorem ArrI.below {w w' : World} {A : Option Addr} {n K : Nat} {zs : List Int} (h : ArrI w A n K zs) (hb : Below w.heap.size w w') : ArrI w' A n K zs := by
  refine ⟨h.1, fun hn => ?_⟩
  obtain ⟨b, o, e, hc⟩ := h.2 hn
  refine ⟨b, o, e, fun i hi => ?_⟩
  obtain ⟨d, B, m, c, h1, h2, h3⟩ := hc i hi
  exact ⟨d, B, m, c, keep_cell h1 hb, keep_cell h2 hb, h3.below hb⟩
theorem ican_pair {w : World} {b : Nat} {t : TypeId} {p : Bool} {X : Option Addr} {y q : Nat} {v : Value} {K : Nat} {z : Int} (h : ICan w v K z) (hp : Pair w b t (.bool p) (.slice X y q)) (u0 u1 : Value) : ICan ((w.setCell ⟨b, 0, none⟩ u0).setCell ⟨b, 1, none⟩ u1) v K z := by
  obtain ⟨sl, e, hg⟩ := h
  exact ⟨sl, e, hg.pair hp _ _⟩
theorem Mag.pair {w : World} {b : Nat} {t : TypeId} {p : Bool} {X : Option Addr} {y q : Nat} {v : Value} {K x : Nat} (h : Mag w v K x) (hp : Pair w b t (.bool p) (.slice X y q)) (u0 u1 : Value) : Mag ((w.setCell ⟨b, 0, none⟩ u0).setCell ⟨b, 1, none⟩ u1) v K x := by
  obtain ⟨A, n, c, l, e, hP, hs, hx, hn⟩ := h
  exact ⟨A, n, c, l, e, hP, hs.pair hp u0 u1, hx, hn⟩
theorem IV.pair {w : World} {b : Nat} {t : TypeId} {p : Bool} {X : Option Addr} {y q : Nat} {v : Value} {K : Nat} {z : Int} (h : IV w v K z) (hp : Pair w b t (.bool p) (.slice X y q)) (u0 u1 : Value) : IV ((w.setCell ⟨b, 0, none⟩ u0).setCell ⟨b, 1, none⟩ u1) v K z := by
  obtain ⟨s, x, ⟨sl, e, hm⟩, hz⟩ := h
  exact ⟨s, x, ⟨sl, e, hm.pair hp _ _⟩, hz⟩
/-- The list's block is not b. -/
def ArrNe (A : Option Addr) (b : Nat) : Prop := ∀ b' o, A = some ⟨b', o, none⟩ → b' ≠ b
theorem arr_pair {w : World} {b : Nat} {t : TypeId} {p : Bool} {X : Option Addr} {y q : Nat} {A : Option Addr} {n K : Nat} {zs : List Int} (h : ArrI w A n K zs) (hp : Pair w b t (.bool p) (.slice X y q)) (hne : ArrNe A b) {u0 u1 : Value} : ArrI ((w.setCell ⟨b, 0, none⟩ u0).setCell ⟨b, 1, none⟩ u1) A n K zs := by
  refine ⟨h.1, fun hn => ?_⟩
  obtain ⟨b', o, e, hc⟩ := h.2 hn
  refine ⟨b', o, e, fun i hi => ?_⟩
  obtain ⟨d, B, m, c, h1, h2, h3⟩ := hc i hi
  have hbb := hne b' o e
  have far : ∀ k v, w.cell? ⟨b', k, none⟩ = some v → ((w.setCell ⟨b, 0, none⟩ u0).setCell ⟨b, 1, none⟩ u1).cell? ⟨b', k, none⟩ = some v := fun k v hv => by
    rw [World.cell?_setCell_other _ _ _ _ (fun h => hbb (by injection h with h; exact h.symm)), World.cell?_setCell_other _ _ _ _ (fun h => hbb (by injection h with h; exact h.symm))]
    exact hv
  exact ⟨d, B, m, c, far _ _ h1, far _ _ h2, h3.pair hp _ _⟩
theorem arr_ne {w : World} {A : Option Addr} {n K : Nat} {zs : List Int} (h : ArrI w A n K zs) (hn : 0 < n) : ArrNe A w.heap.size := fun b' o e => by
  obtain ⟨b, o2, e2, hc⟩ := h.2 hn
  rw [e2] at e
  injection e with e
  injection e with e _ _
  subst e
  obtain ⟨d, B, m, c, h1, _⟩ := hc 0 hn
  exact Nat.ne_of_lt (World.block_lt_of_cell? w _ h1)
/-- A list drawn together, by its first k. -/
def foldN (f : Nat → Nat → Nat) (g : Nat) (zs : List Int) (k : Nat) : Nat := (zs.take k).foldl (fun g z => f g z.natAbs) g
theorem foldN_succ (f : Nat → Nat → Nat) (g : Nat) (zs : List Int) (k : Nat) (h : k < zs.length) : foldN f g zs (k + 1) = f (foldN f g zs k) (zs.getD k 0).natAbs := by
  unfold foldN
  rw [List.take_succ_eq_append_getElem h, List.foldl_append]
  simp [List.getD, h]
set_option maxRecDepth 100000 in
set_option maxHeartbeats 4000000 in
theorem fold_g {w : World} {v : Value} {A : Option Addr} {n c K K0 g base : Nat} {zs : List Int} (harr : ArrI w A n K zs) (hv : ICan w v K0 (g : Int)) (hnv : NwI base w v) (hbase : base ≤ w.heap.size) (hK : K0 + n * K ≤ 4398046511104) (hn : n ≤ 1048576) :
    Calls Tryd.prog 72 #[.slice A n c, v, .func (.func 73) #[] #[]] w fun e w' => ∃ u, e = .returned u ∧ ICan w' u (K0 + n * K) ((foldN Nat.gcd g zs n : Nat) : Int) ∧ Below w.heap.size w w' ∧ NwI base w' u := by
  obtain ⟨d, A0, n0, k0, rfl, HD, hg⟩ := hv.form
  obtain ⟨W, hW, p4, p6, hsz, hbw⟩ := enter2r w 24 (.bool d) (.slice A0 n0 k0) (.bool false) (.slice none 0 0)
  have HW := Lib.hid hW
  have hv2 := hv.below hbw
  have harr2 := harr.below hbw
  have hne0 : 0 < n → ArrNe A w.heap.size := fun h => arr_ne harr h
  have HNE := Lib.hid hne0
  have HNV := Lib.hid (hnv.below hbw)
  clear hne0 hnv
  clear hW hsz hg HD hv
  go_enter Tryd.func72, Tryd.ntmps72
  go_wp2_with fail
  rw [← HW.out]
  go_loopg [8, 11] n (fun gk v8 v11 wr => ∃ (k : Nat) (d : Bool) (B : Option Addr) (m l : Nat), gk + k = n ∧ v11 = .int .i64 (k : Nat) ∧ Pair wr w.heap.size 24 (.bool d) (.slice B m l) ∧ ICan wr (.agg #[.bool d, .slice B m l]) (K0 + k * K) ((foldN Nat.gcd g zs k : Nat) : Int) ∧ Pair wr (w.heap.size + 1) 24 (.bool false) (.slice none 0 0) ∧ ArrI wr A n K zs ∧ Below w.heap.size w wr ∧ Hid (NwI base wr (.agg #[.bool d, .slice B m l])))
  case atStart => exact ⟨0, d, A0, n0, k0, rfl, rfl, p4, by simpa [foldN] using hv2, p6, harr2, hbw, HNV⟩
  case round =>
    clear p4 p6 hv2 harr2 hbw HW HNV
    obtain ⟨k, d1, B, m, l, hk, rfl, p4, hv, p6, harr, hbw, HNV⟩ := hrel
    obtain ⟨f0, f1, c0, c1⟩ := p4.facts
    by_cases hkn : k < n
    · have hne4 := HNE.out (by omega)
      have HN4 := Lib.hid hne4
      obtain ⟨b, o, rfl, hc⟩ := harr.2 (by omega)
      clear hne4
      obtain ⟨d2, B2, m2, l2, e0, e1, hz⟩ := hc k hkn
      have HC := Lib.hid hc
      clear hc
      go_upto_region 4 with (fail)
      obtain ⟨W3, hW3, p8, hb3⟩ : ∃ W3 : World, W3 = wr.alloc (.cells #[.bool d2, .slice B2 m2 l2] 24) ∧ Pair W3 wr.heap.size 24 (.bool d2) (.slice B2 m2 l2) ∧ Below wr.heap.size wr W3 := ⟨_, rfl, Pair.new _ _ _ _, below_alloc1 _ _⟩
      rw [← hW3]
      clear hW3 f0 f1 c0 c1 e0 e1
      replace p4 := p4.below hb3
      replace p6 := p6.below hb3
      replace hv := hv.below hb3
      replace hz := hz.below hb3
      replace harr := harr.below hb3
      replace hbw := below_on hbw hb3
      clear hb3
      obtain ⟨_, _, c0, c1⟩ := p4.facts
      obtain ⟨_, _, c80, c81⟩ := p8.facts
      go_wp2_with fail
      refine (gcd1_n hv.iv hz (by have := Nat.mul_le_mul_right K (show k + 1 ≤ n by omega); rw [Nat.add_mul] at this; omega)).mono ?_
      rintro e w2 ⟨u, rfl, hu, hb2, hn⟩
      replace HNV := Lib.hid (hn.le (base' := base) (Nat.le_trans hbase hbw.size))
      clear hn
      rw [Int.natAbs_natCast, ← foldN_succ Nat.gcd g zs k (by rw [harr.1]; exact hkn)] at hu
      obtain ⟨d3, A3, n3, k3, rfl, HD3, hg3⟩ := hu.form
      replace p4 := p4.below hb2
      replace p6 := p6.below hb2
      replace harr := harr.below hb2
      replace hbw := below_on hbw hb2
      obtain ⟨f0, f1, c0', c1'⟩ := p4.facts
      clear hb2 hu hv hz p8 c0 c1 c80 c81
      have hKs : K0 + (k + 1) * K = K0 + k * K + K := by rw [Nat.add_mul]; omega
      have HKS := Lib.hid hKs
      clear hKs
      go_wp2_with fail
      go_roundg (gk - 1)
      case measure => omega
      case rel => exact ⟨k + 1, d3, A3, n3, k3, by omega, by go_num, p4.set _ _, by rw [HKS.out]; exact ICan.mk HD3.out (hg3.pair p4 _ _), p6.far (by omega) _ _, arr_pair harr p4 HN4.out, below_pair hbw (Nat.le_refl _) _ _, Lib.hid (HNV.out.pair p4 _ _)⟩
    · obtain rfl : k = n := by omega
      obtain ⟨g0, g1, h0, h1⟩ := p6.facts
      go_wp2_with fail
      refine bodyPost_ret (results_cell_row rfl _ _ _ _ _ _ _ rfl (p6.set _ _) Tryd.underlying24 rfl sizeInt) rfl ?_
      exact ⟨_, rfl, ican_pair hv p6 _ _, below_pair hbw (by omega) _ _, HNV.out.pair p6 _ _⟩
set_option maxRecDepth 100000 in
set_option maxHeartbeats 4000000 in
theorem fold_l {w : World} {v : Value} {A : Option Addr} {n c K K0 g base : Nat} {zs : List Int} (harr : ArrI w A n K zs) (hv : ICan w v K0 (g : Int)) (hnv : NwI base w v) (hbase : base ≤ w.heap.size) (hK : K0 + n * K ≤ 4398046511104) (hn : n ≤ 1048576) :
    Calls Tryd.prog 72 #[.slice A n c, v, .func (.func 75) #[] #[]] w fun e w' => ∃ u, e = .returned u ∧ ICan w' u (K0 + n * K) ((foldN Nat.lcm g zs n : Nat) : Int) ∧ Below w.heap.size w w' ∧ NwI base w' u := by
  obtain ⟨d, A0, n0, k0, rfl, HD, hg⟩ := hv.form
  obtain ⟨W, hW, p4, p6, hsz, hbw⟩ := enter2r w 24 (.bool d) (.slice A0 n0 k0) (.bool false) (.slice none 0 0)
  have HW := Lib.hid hW
  have hv2 := hv.below hbw
  have harr2 := harr.below hbw
  have hne0 : 0 < n → ArrNe A w.heap.size := fun h => arr_ne harr h
  have HNE := Lib.hid hne0
  have HNV := Lib.hid (hnv.below hbw)
  clear hne0 hnv
  clear hW hsz hg HD hv
  go_enter Tryd.func72, Tryd.ntmps72
  go_wp2_with fail
  rw [← HW.out]
  go_loopg [8, 11] n (fun gk v8 v11 wr => ∃ (k : Nat) (d : Bool) (B : Option Addr) (m l : Nat), gk + k = n ∧ v11 = .int .i64 (k : Nat) ∧ Pair wr w.heap.size 24 (.bool d) (.slice B m l) ∧ ICan wr (.agg #[.bool d, .slice B m l]) (K0 + k * K) ((foldN Nat.lcm g zs k : Nat) : Int) ∧ Pair wr (w.heap.size + 1) 24 (.bool false) (.slice none 0 0) ∧ ArrI wr A n K zs ∧ Below w.heap.size w wr ∧ Hid (NwI base wr (.agg #[.bool d, .slice B m l])))
  case atStart => exact ⟨0, d, A0, n0, k0, rfl, rfl, p4, by simpa [foldN] using hv2, p6, harr2, hbw, HNV⟩
  case round =>
    clear p4 p6 hv2 harr2 hbw HW HNV
    obtain ⟨k, d1, B, m, l, hk, rfl, p4, hv, p6, harr, hbw, HNV⟩ := hrel
    obtain ⟨f0, f1, c0, c1⟩ := p4.facts
    by_cases hkn : k < n
    · have hne4 := HNE.out (by omega)
      have HN4 := Lib.hid hne4
      obtain ⟨b, o, rfl, hc⟩ := harr.2 (by omega)
      clear hne4
      obtain ⟨d2, B2, m2, l2, e0, e1, hz⟩ := hc k hkn
      have HC := Lib.hid hc
      clear hc
      go_upto_region 4 with (fail)
      obtain ⟨W3, hW3, p8, hb3⟩ : ∃ W3 : World, W3 = wr.alloc (.cells #[.bool d2, .slice B2 m2 l2] 24) ∧ Pair W3 wr.heap.size 24 (.bool d2) (.slice B2 m2 l2) ∧ Below wr.heap.size wr W3 := ⟨_, rfl, Pair.new _ _ _ _, below_alloc1 _ _⟩
      rw [← hW3]
      clear hW3 f0 f1 c0 c1 e0 e1
      replace p4 := p4.below hb3
      replace p6 := p6.below hb3
      replace hv := hv.below hb3
      replace hz := hz.below hb3
      replace harr := harr.below hb3
      replace hbw := below_on hbw hb3
      clear hb3
      obtain ⟨_, _, c0, c1⟩ := p4.facts
      obtain ⟨_, _, c80, c81⟩ := p8.facts
      go_wp2_with fail
      refine (lcm1_n hv.iv hz (by have := Nat.mul_le_mul_right K (show k + 1 ≤ n by omega); rw [Nat.add_mul] at this; omega)).mono ?_
      rintro e w2 ⟨u, rfl, hu, hb2, hn⟩
      replace HNV := Lib.hid (hn.le (base' := base) (Nat.le_trans hbase hbw.size))
      clear hn
      rw [Int.natAbs_natCast, ← foldN_succ Nat.lcm g zs k (by rw [harr.1]; exact hkn)] at hu
      obtain ⟨d3, A3, n3, k3, rfl, HD3, hg3⟩ := hu.form
      replace p4 := p4.below hb2
      replace p6 := p6.below hb2
      replace harr := harr.below hb2
      replace hbw := below_on hbw hb2
      obtain ⟨f0, f1, c0', c1'⟩ := p4.facts
      clear hb2 hu hv hz p8 c0 c1 c80 c81
      have hKs : K0 + (k + 1) * K = K0 + k * K + K := by rw [Nat.add_mul]; omega
      have HKS := Lib.hid hKs
      clear hKs
      go_wp2_with fail
      go_roundg (gk - 1)
      case measure => omega
      case rel => exact ⟨k + 1, d3, A3, n3, k3, by omega, by go_num, p4.set _ _, by rw [HKS.out]; exact ICan.mk HD3.out (hg3.pair p4 _ _), p6.far (by omega) _ _, arr_pair harr p4 HN4.out, below_pair hbw (Nat.le_refl _) _ _, Lib.hid (HNV.out.pair p4 _ _)⟩
    · obtain rfl : k = n := by omega
      obtain ⟨g0, g1, h0, h1⟩ := p6.facts
      go_wp2_with fail
      refine bodyPost_ret (results_cell_row rfl _ _ _ _ _ _ _ rfl (p6.set _ _) Tryd.underlying24 rfl sizeInt) rfl ?_
      exact ⟨_, rfl, ican_pair hv p6 _ _, below_pair hbw (by omega) _ _, HNV.out.pair p6 _ _⟩
set_option maxRecDepth 100000 in
set_option maxHeartbeats 1600000 in
theorem gcd_n {w : World} {A : Option Addr} {n c K : Nat} {zs : List Int} (harr : ArrI w A n K zs) (hK : n * K ≤ 4398046511104) (hn : n ≤ 1048576) :
    Calls Tryd.prog 45 #[.slice A n c] w fun e w' => ∃ u, e = .returned u ∧ ICan w' u (n * K) ((foldN Nat.gcd 0 zs n : Nat) : Int) ∧ Below w.heap.size w w' ∧ NwI w.heap.size w' u := by
  have hb0 := below_alloc1 w (.cells #[.bool false, .slice none 0 0] 24)
  have hp0 := Pair.new w 24 (.bool false) (.slice none 0 0)
  go_enter Tryd.func45, Tryd.ntmps45
  go_wp2_with fail
  have hz : ICan (w.alloc (.cells #[.bool false, .slice none 0 0] 24)) (.agg #[.bool false, .slice none 0 0]) 0 ((0 : Nat) : Int) := ⟨_, rfl, none, 0, 0, rfl, Pl.any _, Sl.nil _ _ _, Nat.le_refl _⟩
  refine (fold_g (base := w.heap.size) (harr.below hb0) hz (NwI.mk (NwS.nil _ _)) hb0.size (by omega) hn).mono ?_
  rintro e w1 ⟨u, rfl, hu, hb1, hn1⟩
  have HN := Lib.hid hn1
  clear hn1
  rw [Nat.zero_add] at hu
  obtain ⟨d, A1, k, c1, rfl, HD, hg⟩ := hu.form
  replace hp0 := hp0.below hb1
  have hbw := below_on hb0 hb1
  obtain ⟨f0, f1, c0, c1'⟩ := hp0.facts
  clear hu hb0 hb1 hz
  go_wp2_with fail
  refine bodyPost_ret (results_cell_row rfl _ _ _ _ _ _ _ rfl (hp0.set _ _) Tryd.underlying24 rfl sizeInt) rfl ?_
  exact ⟨_, rfl, ICan.mk HD.out (hg.pair hp0 _ _), below_pair hbw (Nat.le_refl _) _ _, HN.out.pair hp0 _ _⟩
theorem gcd_i {w : World} {A : Option Addr} {n c K : Nat} {zs : List Int} (harr : ArrI w A n K zs) (hK : n * K ≤ 4398046511104) (hn : n ≤ 1048576) :
    Calls Tryd.prog 45 #[.slice A n c] w fun e w' => ∃ u, e = .returned u ∧ ICan w' u (n * K) ((foldN Nat.gcd 0 zs n : Nat) : Int) ∧ Below w.heap.size w w' :=
  (gcd_n harr hK hn).mono fun _ _ ⟨u, h1, h2, h3, _⟩ => ⟨u, h1, h2, h3⟩
set_option maxRecDepth 100000 in
set_option maxHeartbeats 1600000 in
theorem lcm_n {w : World} {A : Option Addr} {n c K : Nat} {zs : List Int} (harr : ArrI w A n K zs) (hK : 2 + n * K ≤ 4398046511104) (hn : n ≤ 1048576) :
    Calls Tryd.prog 46 #[.slice A n c] w fun e w' => ∃ u, e = .returned u ∧ ICan w' u (2 + n * K) ((foldN Nat.lcm 1 zs n : Nat) : Int) ∧ Below w.heap.size w w' ∧ NwI w.heap.size w' u := by
  have hb0 := below_alloc1 w (.cells #[.bool false, .slice none 0 0] 24)
  have hp0 := Pair.new w 24 (.bool false) (.slice none 0 0)
  go_enter Tryd.func46, Tryd.ntmps46
  go_wp2_with fail
  refine (of_n _ 1 (by omega)).mono ?_
  rintro e w1 ⟨v1, rfl, hv1, hb1, hn1⟩
  replace hp0 := hp0.below hb1
  have HN1 := Lib.hid (hn1.le (base' := w.heap.size) hb0.size)
  have hbw := below_on hb0 hb1
  clear hb0 hb1 hn1
  go_wp2_with fail
  refine (fold_l (g := 1) (base := w.heap.size) (harr.below hbw) hv1 HN1.out hbw.size (by omega) hn).mono ?_
  rintro e w2 ⟨u, rfl, hu, hb2, hn2⟩
  have HN := Lib.hid hn2
  clear hn2 HN1
  obtain ⟨d, A1, k, c1, rfl, HD, hg⟩ := hu.form
  replace hp0 := hp0.below hb2
  replace hbw := below_on hbw hb2
  obtain ⟨f0, f1, c0, c1'⟩ := hp0.facts
  clear hu hb2 hv1
  go_wp2_with fail
  refine bodyPost_ret (results_cell_row rfl _ _ _ _ _ _ _ rfl (hp0.set _ _) Tryd.underlying24 rfl sizeInt) rfl ?_
  exact ⟨_, rfl, ICan.mk HD.out (hg.pair hp0 _ _), below_pair hbw (Nat.le_refl _) _ _, HN.out.pair hp0 _ _⟩
theorem lcm_i {w : World} {A : Option Addr} {n c K : Nat} {zs : List Int} (harr : ArrI w A n K zs) (hK : 2 + n * K ≤ 4398046511104) (hn : n ≤ 1048576) :
    Calls Tryd.prog 46 #[.slice A n c] w fun e w' => ∃ u, e = .returned u ∧ ICan w' u (2 + n * K) ((foldN Nat.lcm 1 zs n : Nat) : Int) ∧ Below w.heap.size w w' :=
  (lcm_n harr hK hn).mono fun _ _ ⟨u, h1, h2, h3, _⟩ => ⟨u, h1, h2, h3⟩
/-- A list of two numbers. -/
theorem arr_two {w w0 : World} {K : Nat} {x y : Int} {d1 d2 : Bool} {B1 B2 : Option Addr} {m1 m2 c1 c2 : Nat} {t : TypeId} (hx : IV w0 (.agg #[.bool d1, .slice B1 m1 c1]) K x) (hy : IV w0 (.agg #[.bool d2, .slice B2 m2 c2]) K y)
    (hw : w = w0.alloc (.cells #[.bool d1, .slice B1 m1 c1, .bool d2, .slice B2 m2 c2] t)) : ArrI w (some ⟨w0.heap.size, 0, none⟩) 2 K [x, y] := by
  subst hw
  have hb := below_alloc1 w0 (.cells #[.bool d1, .slice B1 m1 c1, .bool d2, .slice B2 m2 c2] t)
  have h0 := heap_alloc_new w0 (.cells #[.bool d1, .slice B1 m1 c1, .bool d2, .slice B2 m2 c2] t)
  refine ⟨rfl, fun _ => ⟨_, 0, rfl, fun i hi => ?_⟩⟩
  rcases (show i = 0 ∨ i = 1 by omega) with rfl | rfl
  · exact ⟨d1, B1, m1, c1, by rw [cell_of_row _ _ _ _ _ _ h0]; rfl, by rw [cell_of_row _ _ _ _ _ _ h0]; rfl, hx.below hb⟩
  · exact ⟨d2, B2, m2, c2, by rw [cell_of_row _ _ _ _ _ _ h0]; rfl, by rw [cell_of_row _ _ _ _ _ _ h0]; rfl, hy.below hb⟩
end Go.Proofs.YtiidghfkdjefgaaDoor

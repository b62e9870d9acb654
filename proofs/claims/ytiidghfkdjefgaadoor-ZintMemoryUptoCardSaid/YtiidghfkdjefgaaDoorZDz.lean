/-
  zint.DivMod by nought: contract.
-/
import Derived.Test.YtiidghfkdjefgaaDoorZTwo
import Derived.Test.YtiidghfkdjefgaaDoorZHand
import Derived.Deep.Cut
import Derived.Deep.RegionWith
namespace Go.Proofs.YtiidghfkdjefgaaDoor
open Go.RowKit

theorem results_two {fn : Func} {p q u : Tmp} (h : fn.results = #[.cell p 24, .cell q 24, .tmp u]) (tmps : Array Value) (w : World) (g g' : Nat) (v0 v1 u0 u1 : Value)
    (hp : tmps.getD p undef = .pointer (some ⟨g, 0, none⟩)) (hq : tmps.getD q undef = .pointer (some ⟨g', 0, none⟩)) (hg : Pair w g 24 v0 v1) (hg' : Pair w g' 24 u0 u1) :
    (results fn tmps).run Tryd.prog w = .ok (.tuple #[.agg #[v0, v1], .agg #[u0, u1], tmps.getD u undef]) w := by
  have hp' : tmps[p]?.getD undef = .pointer (some ⟨g, 0, none⟩) := by simpa using hp
  have hq' : tmps[q]?.getD undef = .pointer (some ⟨g', 0, none⟩) := by simpa using hq
  simp [results, h, hp', hq', asAddr, Sem.run_bind, run_loadVar_row w g _ 24 _ _ _ hg Tryd.underlying24 rfl sizeInt, run_loadVar_row w g' _ 24 _ _ _ hg' Tryd.underlying24 rfl sizeInt]
theorem results_one {fn : Func} {p u : Tmp} (h : fn.results = #[.cell p 24, .tmp u]) (tmps : Array Value) (w : World) (g : Nat) (v0 v1 : Value)
    (hp : tmps.getD p undef = .pointer (some ⟨g, 0, none⟩)) (hg : Pair w g 24 v0 v1) :
    (results fn tmps).run Tryd.prog w = .ok (.tuple #[.agg #[v0, v1], tmps.getD u undef]) w := by
  have hp' : tmps[p]?.getD undef = .pointer (some ⟨g, 0, none⟩) := by simpa using hp
  simp [results, h, hp', asAddr, run_loadVar_row w g _ 24 _ _ _ hg Tryd.underlying24 rfl sizeInt]
/-- A number's block. -/
def At (w : World) (b : Nat) (K : Nat) (z : Int) : Prop := ∃ d A n c, Pair w b 24 (.bool d) (.slice A n c) ∧ Hid (d = decide (z < 0)) ∧ Bag w (.slice A n c) K z.natAbs
theorem At.of {w : World} {b K : Nat} {z : Int} {d : Bool} {A : Option Addr} {n c : Nat} (h : Pair w b 24 (.bool d) (.slice A n c)) (hd : Hid (d = decide (z < 0))) (hg : Bag w (.slice A n c) K z.natAbs) : At w b K z := ⟨d, A, n, c, h, hd, hg⟩
theorem enter4 (w : World) (t : TypeId) (x0 x1 y0 y1 : Value) : ∃ W : World, W = (((w.alloc (.cells #[x0, x1] t)).alloc (.cells #[y0, y1] t)).alloc (.cells #[.bool false, .slice none 0 0] t)).alloc (.cells #[.bool false, .slice none 0 0] t) ∧ Pair W w.heap.size t x0 x1 ∧ Pair W (w.heap.size + 1) t y0 y1 ∧
    Pair W (w.heap.size + 2) t (.bool false) (.slice none 0 0) ∧ Pair W (w.heap.size + 3) t (.bool false) (.slice none 0 0) ∧ W.heap.size = w.heap.size + 4 ∧ Below w.heap.size w W := by
  obtain ⟨W, hW, h0, h1, h2, hs, hb⟩ := enter2 w t x0 x1 y0 y1
  have h3 := Pair.new W t (.bool false) (.slice none 0 0)
  rw [hs] at h3
  refine ⟨W.alloc (.cells #[.bool false, .slice none 0 0] t), by rw [← hW], h0.alloc _, h1.alloc _, h2.alloc _, h3, by simp [hs], below_on hb (below_alloc1 _ _)⟩
theorem ican_zero (w : World) : ICan w (.agg #[.bool false, .slice none 0 0]) 0 0 := ⟨_, rfl, none, 0, 0, rfl, Pl.any _, Sl.nil _ _ _, Nat.le_refl _⟩
theorem iv_of {w : World} {d : Bool} {sl : Value} {K : Nat} {z : Int} (hd : Hid (d = decide (z < 0))) (hg : Bag w sl K z.natAbs) : IV w (.agg #[.bool d, sl]) K z := (ICan.mk hd.out hg).iv
/-- Two numbers' blocks, their lists in new memory and apart. -/
def AtT (base : Nat) (w : World) (b b' : Nat) (K K' : Nat) (z z' : Int) : Prop := ∃ d A n c d' A' n' c', Pair w b 24 (.bool d) (.slice A n c) ∧ Hid (d = decide (z < 0)) ∧ Bag w (.slice A n c) K z.natAbs ∧ Hid (NwI base w (.agg #[.bool d, .slice A n c])) ∧
  Pair w b' 24 (.bool d') (.slice A' n' c') ∧ Hid (d' = decide (z' < 0)) ∧ Bag w (.slice A' n' c') K' z'.natAbs ∧ Hid (NwI base w (.agg #[.bool d', .slice A' n' c'])) ∧ Hid (Sep (.agg #[.bool d, .slice A n c]) (.agg #[.bool d', .slice A' n' c']))
theorem AtT.of {base : Nat} {w : World} {b b' K K' : Nat} {z z' : Int} {d d' : Bool} {A A' : Option Addr} {n c n' c' : Nat} (h : Pair w b 24 (.bool d) (.slice A n c)) (hd : Hid (d = decide (z < 0))) (hg : Bag w (.slice A n c) K z.natAbs) (hn : NwI base w (.agg #[.bool d, .slice A n c]))
    (h' : Pair w b' 24 (.bool d') (.slice A' n' c')) (hd' : Hid (d' = decide (z' < 0))) (hg' : Bag w (.slice A' n' c') K' z'.natAbs) (hn' : NwI base w (.agg #[.bool d', .slice A' n' c'])) (hs : Hid (Sep (.agg #[.bool d, .slice A n c]) (.agg #[.bool d', .slice A' n' c']))) : AtT base w b b' K K' z z' :=
  ⟨d, A, n, c, d', A', n', c', h, hd, hg, Lib.hid hn, h', hd', hg', Lib.hid hn', hs⟩
set_option maxRecDepth 100000 in
set_option maxHeartbeats 4000000 in
theorem dm_n0 {w : World} {a b : Value} {K L : Nat} {x y : Int} (ha : IV w a K x) (hb : IV w b L y) (hK : K ≤ 4398046511104) (hL : L ≤ 4398046511104) (hy : y = 0) :
    Calls Tryd.prog 13 #[a, b] w fun e w' => ∃ q r, e = .returned (.tuple #[q, r, .int .i64 11]) ∧ (ICan w' q 0 0 ∧ ICan w' r 0 0) ∧ Below w.heap.size w w' ∧ (NwI w.heap.size w' q ∧ NwI w.heap.size w' r ∧ Sep q r) := by
  obtain ⟨s, m, ⟨sa, rfl, ha⟩, hx0⟩ := ha
  obtain ⟨t, n, ⟨sb, rfl, hb⟩, hy0⟩ := hb
  have HX0 := Lib.hid hx0
  have HY0 := Lib.hid hy0
  clear hx0 hy0
  obtain ⟨sa0, sa1, sa2, rfl⟩ := ha.slice
  obtain ⟨sb0, sb1, sb2, rfl⟩ := hb.slice
  obtain ⟨W, hW, hp0, hp1, hp2, hp3, hsz, hbW⟩ := enter4 w 24 (.bool s) (.slice sa0 sa1 sa2) (.bool t) (.slice sb0 sb1 sb2)
  have HW := Lib.hid hW
  clear hW
  go_enter Tryd.func13, Tryd.ntmps13
  go_wp2_with fail
  rw [← HW.out]
  go_cut [] from 9 (fun wc => (At wc w.heap.size K x ∧ At wc (w.heap.size + 1) L y ∧ Pair wc (w.heap.size + 2) 24 (.bool false) (.slice none 0 0) ∧ Pair wc (w.heap.size + 3) 24 (.bool false) (.slice none 0 0)) ∧ Below w.heap.size w wc)
  case first =>
    obtain ⟨f00, f01, c00, c01⟩ := hp0.facts
    obtain ⟨f10, f11, c10, c11⟩ := hp1.facts
    have hbD : Below w.heap.size w W.drew := hbW.drew
    clear hbW hsz
    go_region_with (first
      | (go_at_call_of 39 (Value.agg #[.bool s, .slice sa0 sa1 sa2]); refine (norm_i (z := x) (K := K) ⟨s, m, ⟨_, rfl, ha.below hbD⟩, HX0.out⟩ (by omega)).mono ?_; rintro e w1 ⟨v1, rfl, hv1, hb1⟩; obtain ⟨d1, A1, n1, k1, rfl, HD1, hg1⟩ := hv1.form; clear hv1; have hS := below_on hbD hb1; replace hp0 := hp0.drew.below hb1; replace hp1 := hp1.drew.below hb1; replace hp2 := hp2.drew.below hb1; replace hp3 := hp3.drew.below hb1; clear hbD f00 f01 c00 c01 f10 f11 c10 c11; obtain ⟨f00, f01, c00, c01⟩ := hp0.facts; obtain ⟨f10, f11, c10, c11⟩ := hp1.facts; clear hb1)
      | (go_at_call_of 39 (Value.agg #[.bool t, .slice sb0 sb1 sb2]); refine (norm_i (z := y) (K := L) ⟨t, n, ⟨_, rfl, hb.below hS⟩, HY0.out⟩ (by omega)).mono ?_; rintro e w2 ⟨v2, rfl, hv2, hb2⟩; obtain ⟨d2, A2, n2, k2, rfl, HD2, hg2⟩ := hv2.form; clear hv2; replace hg1 := hg1.below hb2; replace hS := below_on hS hb2; replace hp0 := hp0.below hb2; replace hp1 := hp1.below hb2; replace hp2 := hp2.below hb2; replace hp3 := hp3.below hb2; clear f00 f01 c00 c01 f10 f11 c10 c11; obtain ⟨f00, f01, c00, c01⟩ := hp0.facts; obtain ⟨f10, f11, c10, c11⟩ := hp1.facts; clear hb2))
    all_goals
      go_wp2_with fail
      go_meet
      case rel =>
        exact ⟨⟨At.of ((hp0.set _ _).far (by omega) _ _) HD1 ((hg1.pair hp0 _ _).pair (hp1.far (by omega) _ _) _ _), At.of ((hp1.far (by omega) _ _).set _ _) HD2 ((hg2.pair hp0 _ _).pair (hp1.far (by omega) _ _) _ _), (hp2.far (by omega) _ _).far (by omega) _ _, (hp3.far (by omega) _ _).far (by omega) _ _⟩, below_pair (below_pair hS (Nat.le_refl _) _ _) (Nat.le_succ _) _ _⟩
  case rest =>
    clear HX0 HY0 ha hb hp0 hp1 hp2 hp3 HW hbW
    obtain ⟨⟨⟨dx, Ax, nx, kx, hp0, HDX, hgx⟩, ⟨dy, Ay, ny, ky, hp1, HDY, hgy⟩, hp2, hp3⟩, hbw⟩ := hcut
    obtain ⟨_, _, c00, c01⟩ := hp0.facts
    obtain ⟨_, _, c10, c11⟩ := hp1.facts
    go_wp2_with fail
    refine (dm_z hgx.mag.val hgy.mag.val (by omega) (by omega) (by omega)).mono ?_
    rintro e w3 ⟨rfl, rfl⟩
    obtain ⟨f20, f21, c20, c21⟩ := hp2.facts
    obtain ⟨f30, f31, c30, c31⟩ := hp3.facts
    go_wp2_with fail
    obtain ⟨W8, hW8, h8⟩ : ∃ W8 : World, W8 = ((((wc.setCell ⟨w.heap.size + 1 + 1, 0, none⟩ (.bool false)).setCell ⟨w.heap.size + 1 + 1, 1, none⟩ (.slice none 0 0)).setCell ⟨w.heap.size + 1 + 1 + 1, 0, none⟩ (.bool false)).setCell ⟨w.heap.size + 1 + 1 + 1, 1, none⟩ (.slice none 0 0)).drew ∧ (Pair W8 (w.heap.size + 1 + 1) 24 (.bool false) (.slice none 0 0) ∧ Pair W8 (w.heap.size + 1 + 1 + 1) 24 (.bool false) (.slice none 0 0)) ∧ (ICan W8 (.agg #[.bool false, (.slice none 0 0)]) 0 0 ∧ ICan W8 (.agg #[.bool false, (.slice none 0 0)]) 0 0) ∧ Below w.heap.size w W8 ∧ (NwI w.heap.size W8 (.agg #[.bool false, (.slice none 0 0)]) ∧ NwI w.heap.size W8 (.agg #[.bool false, (.slice none 0 0)]) ∧ Sep (.agg #[.bool false, (.slice none 0 0)]) (.agg #[.bool false, (.slice none 0 0)])) :=
      ⟨_, rfl, ⟨((hp2.set _ _).far (by omega) _ _).drew, ((hp3.far (by omega) _ _).set _ _).drew⟩, ⟨ican_zero _, ican_zero _⟩, (below_pair (below_pair hbw (by omega) _ _) (by omega) _ _).drew, NwI.mk (NwS.nil _ _), NwI.mk (NwS.nil _ _), Sep.nil _ _⟩
    have HW8 := Lib.hid hW8
    have H8 := Lib.hid h8
    clear hW8 h8 hp0 hp1 hp2 hp3 hgx hgy HDX HDY hbw
    go_region
    all_goals
      go_wp2_with fail
      rw [← HW8.out]
      obtain ⟨⟨h2, h3⟩, h4, h5⟩ := H8.out
      refine bodyPost_ret (results_two rfl _ _ _ _ _ _ _ _ rfl rfl h2 h3) rfl ?_
      exact ⟨_, _, rfl, h4, h5⟩
theorem dm_i0 {w : World} {a b : Value} {K L : Nat} {x y : Int} (ha : IV w a K x) (hb : IV w b L y) (hK : K ≤ 4398046511104) (hL : L ≤ 4398046511104) (hy : y = 0) :
    Calls Tryd.prog 13 #[a, b] w fun e w' => ∃ q r, e = .returned (.tuple #[q, r, .int .i64 11]) ∧ (ICan w' q 0 0 ∧ ICan w' r 0 0) ∧ Below w.heap.size w w' :=
  (dm_n0 ha hb hK hL hy).mono fun _ _ ⟨q, r, h1, h2, h3, _⟩ => ⟨q, r, h1, h2, h3⟩
end Go.Proofs.YtiidghfkdjefgaaDoor

/-
  u: the parts SyntaxJoins of the proof.
-/
import Derived.Test.YthiadenmljbdaaaGreatDoorB37s
import Derived.Test.YthiadenmljbdaaaGreatDoorB3u
import Derived.Test.YthiadenmljbdaaaGreatDoorB38s
import Derived.Test.YthiadenmljbdaaaGreatDoorB1u
import Derived.Test.YthiadenmljbdaaaGreatDoorB9s
import Derived.Deep.Cut
section
namespace Go.Proofs.YthiadenmljbdaaaGreatDoor
open Go.RowKit
open Go.Shelf
theorem in_pair {w : World} {R R' : Nat → Prop} {t u : T} {g : Nat} {a0 a1 a2 a3 a4 a5 b0 b1 b2 b3 b4 b5 : Value} (hp : Blk w g 28 #[a0, a1, a2, a3, a4, a5, b0, b1, b2, b3, b4, b5]) (h : T.In w R t (.agg #[a0, a1, a2, a3, a4, a5])) (h' : T.In w R' u (.agg #[b0, b1, b2, b3, b4, b5])) (k : Int) :
    T.In w (fun b => R b ∨ R' b ∨ b = g) (P.nd k [t, u]) (.agg #[.int .i64 k, .string ⟨#[]⟩, .slice none 0 0, .bool false, .slice none 0 0, .slice (some ⟨g, 0, none⟩) 2 2]) := by
  unfold P.nd
  rw [T.In]
  refine ⟨none, 0, none, 0, some ⟨g, 0, none⟩, 2, rfl, ⟨Nat.le_refl _, fun h => absurd h (by simp)⟩, ⟨Sl.nil _ _ _, fun h => absurd h (by simp)⟩, Nat.le_refl _, fun _ => ⟨_, _, rfl, .inr (.inr rfl), ?_⟩⟩
  rw [T.Ins, T.Ins, T.Ins]
  exact ⟨⟨_, _, _, _, _, _, ⟨hp.cell 0, hp.cell 1, hp.cell 2, hp.cell 3, hp.cell 4, hp.cell 5⟩, h.mono (fun _ h => .inl h)⟩, ⟨_, _, _, _, _, _, ⟨hp.cell 6, hp.cell 7, hp.cell 8, hp.cell 9, hp.cell 10, hp.cell 11⟩, h'.mono (fun _ h => .inr (.inl h))⟩, trivial⟩
theorem blk_newd (w : World) (t : TypeId) (cs : Array Value) : Blk (w.alloc (.cells cs t)).drew w.heap.size t cs := Blk.new w t cs
theorem in_one {w : World} {R : Nat → Prop} {t : T} {g : Nat} {a0 a1 a2 a3 a4 a5 : Value} (hp : Blk w g 28 #[a0, a1, a2, a3, a4, a5]) (h : T.In w R t (.agg #[a0, a1, a2, a3, a4, a5])) (k : Int) :
    T.In w (fun b => R b ∨ b = g) (P.nd k [t]) (.agg #[.int .i64 k, .string ⟨#[]⟩, .slice none 0 0, .bool false, .slice none 0 0, .slice (some ⟨g, 0, none⟩) 1 1]) := by
  unfold P.nd
  rw [T.In]
  refine ⟨none, 0, none, 0, some ⟨g, 0, none⟩, 1, rfl, ⟨Nat.le_refl _, fun h => absurd h (by simp)⟩, ⟨Sl.nil _ _ _, fun h => absurd h (by simp)⟩, Nat.le_refl _, fun _ => ⟨_, _, rfl, .inr rfl, ?_⟩⟩
  rw [T.Ins, T.Ins]
  exact ⟨⟨_, _, _, _, _, _, ⟨hp.cell 0, hp.cell 1, hp.cell 2, hp.cell 3, hp.cell 4, hp.cell 5⟩, h.mono (fun _ h => .inl h)⟩, trivial⟩
def jwords : Array Value := #[.string ⟨#[97, 110, 100]⟩, .string ⟨#[111, 114]⟩, .string ⟨#[105, 109, 112, 108, 105, 101, 115]⟩, .string ⟨#[105, 102, 102]⟩]
def jkinds : Array Value := #[.int .i64 17, .int .i64 18, .int .i64 19, .int .i64 20]
def JW (W : ByteArray) (k : Int) : Prop := (W = ⟨#[97, 110, 100]⟩ ∧ k = 17) ∨ (W = ⟨#[111, 114]⟩ ∧ k = 18) ∨ (W = ⟨#[105, 109, 112, 108, 105, 101, 115]⟩ ∧ k = 19) ∨ (W = ⟨#[105, 102, 102]⟩ ∧ k = 20)
theorem jword {r : Nat} (hr : r < 4) : ∃ (W : ByteArray) (k : Int), JW W k ∧ jwords[r]? = some (.string W) ∧ jkinds[r]? = some (.int .i64 k) ∧ W.size ≤ 7 := by
  have : r = 0 ∨ r = 1 ∨ r = 2 ∨ r = 3 := by omega
  rcases this with rfl | rfl | rfl | rfl
  · exact ⟨_, _, .inl ⟨rfl, rfl⟩, rfl, rfl, by decide⟩
  · exact ⟨_, _, .inr (.inl ⟨rfl, rfl⟩), rfl, rfl, by decide⟩
  · exact ⟨_, _, .inr (.inr (.inl ⟨rfl, rfl⟩)), rfl, rfl, by decide⟩
  · exact ⟨_, _, .inr (.inr (.inr ⟨rfl, rfl⟩)), rfl, rfl, by decide⟩
theorem blk_at {w : World} {b : Nat} {t : TypeId} {cs : Array Value} (h : Blk w b t cs) {i : Nat} {v : Value} (hv : cs[i]? = some v) : w.cell? ⟨b, i, none⟩ = some v := (h.cell i).trans hv
theorem pair_depth (k : Int) (t u : T) : (P.nd k [t, u]).depth = max t.depth u.depth + 1 := by simp [P.nd, T.depth, T.depths]
theorem one_depth (k : Int) (t : T) : (P.nd k [t]).depth = t.depth + 1 := by simp [P.nd, T.depth, T.depths]
theorem pair_bulk (k : Int) (t u : T) : (P.nd k [t, u]).bulk = t.bulk + u.bulk + 1 := by simp [P.nd, T.bulk, T.bulks, sbulk]; rfl
theorem one_bulk (k : Int) (t : T) : (P.nd k [t]).bulk = t.bulk + 1 := by simp [P.nd, T.bulk, T.bulks, sbulk]; rfl
theorem joined_size (A W B : ByteArray) : (P.joined A W B).size = A.size + W.size + B.size + 6 := by
  unfold P.joined
  simp only [ByteArray.size_append]
  show 1 + A.size + 2 + W.size + 2 + B.size + 1 = _
  omega
theorem noted_size (A : ByteArray) : (P.noted A).size = A.size + 6 := by
  unfold P.noted
  simp only [ByteArray.size_append]
  show 5 + A.size + 1 = _
  omega
set_option maxRecDepth 100000 in
set_option maxHeartbeats 8000000 in
theorem walkSyntaxJoins (w : World) (A B : ByteArray) (hA : A.size ≤ 1048576) (hB : B.size ≤ 1048576) (z : Int) (hz : -9223372036854775808 ≤ z ∧ z < 9223372036854775808) :
    Calls Tryz.prog 10 #[.string A, .string B, .int .i64 z] w fun e w' => e = .returned (.bool true) ∧ Below w.heap.size w w' := by
  obtain ⟨c1, hc1⟩ : ∃ c, (P.res A).1 = c := ⟨_, rfl⟩
  obtain ⟨p1, hp1⟩ : ∃ c, (P.res A).2.1 = c := ⟨_, rfl⟩
  obtain ⟨t, ht⟩ : ∃ c, (P.res A).2.2 = c := ⟨_, rfl⟩
  obtain ⟨c2, hc2⟩ : ∃ c, (P.res B).1 = c := ⟨_, rfl⟩
  obtain ⟨p2, hp2⟩ : ∃ c, (P.res B).2.1 = c := ⟨_, rfl⟩
  obtain ⟨u, hu⟩ : ∃ c, (P.res B).2.2 = c := ⟨_, rfl⟩
  obtain ⟨r, hr⟩ : ∃ r, pk z 4 = r := ⟨_, rfl⟩
  have hr4 : r < 4 := by rw [← hr]; exact pk_lt z (by decide)
  obtain ⟨W, k, hjw, hwr, hkr, hw7⟩ := jword hr4
  have hbt := res_bulk A
  have hbu := res_bulk B
  rw [ht] at hbt
  rw [hu] at hbu
  have HRA : Hid (P.res A = (c1, p1, t)) := Lib.hid (by rw [← hc1, ← hp1, ← ht])
  have HRB : Hid (P.res B = (c2, p2, u)) := Lib.hid (by rw [← hc2, ← hp2, ← hu])
  have HPA := Lib.hid (fun (w : World) => by have := parse_o w A; rw [HRA.out] at this; exact this)
  have HPB := Lib.hid (fun (w : World) => by have := parse_o w B; rw [HRB.out] at this; exact this)
  have HPK := Lib.hid (fun (w : World) => by have := pick_z w z hz 4 (by decide) (by decide); rw [hr] at this; exact this)
  have HBT := Lib.hid hbt
  have HBU := Lib.hid hbu
  have HJW := Lib.hid hjw
  have HWR := Lib.hid hwr
  have HKR := Lib.hid hkr
  have hi0 : (0 : Int) ≤ (r : Int) := by omega
  have hi1 : (r : Int) < 4 := by omega
  have hi2 : decide (r < 4) = true := decide_eq_true hr4
  have hs0 : ¬ (9223372036854775807 < 1 + A.size) := by omega
  have hs1 : ¬ (9223372036854775807 < 1 + A.size + 2) := by omega
  have hs2 : ¬ (9223372036854775807 < 1 + A.size + 2 + W.size) := by omega
  have hs3 : ¬ (9223372036854775807 < 1 + A.size + 2 + W.size + 2) := by omega
  have hs4 : ¬ (9223372036854775807 < 1 + A.size + 2 + W.size + 2 + B.size) := by omega
  have hs5 : ¬ (9223372036854775807 < 1 + A.size + 2 + W.size + 2 + B.size + 1) := by omega
  have hs6 : ¬ (9223372036854775807 < 5 + A.size) := by omega
  have hs7 : ¬ (9223372036854775807 < 5 + A.size + 1) := by omega
  have HA := Lib.hid hA
  have HB := Lib.hid hB
  have HW7 := Lib.hid hw7
  clear hc1 hp1 ht hc2 hp2 hu hr hbt hbu hz hjw hwr hkr hA hB hw7
  go_enter Tryz.func10, Tryz.ntmps10
  go_upto_region 2 with (go_at_call 12; refine (HPA.out _).mono ?_; rintro e w1 ⟨xk, xn, xA1, xm1, xd1, xng, xA2, xm2, xd2, xA3, xm3, xd3, rfl, hin, hbw1⟩)
  obtain ⟨V1, qV1, psx, pmx, hbV1⟩ := two_new w1 #[.int .i64 xk, .string xn, .slice xA1 xm1 xd1, .bool xng, .slice xA2 xm2 xd2, .slice xA3 xm3 xd3] (.int .i64 (c1 : Nat)) (.int .i64 (p1 : Nat))
  rw [← qV1]
  obtain ⟨gmx, hgm⟩ : ∃ x, x = w1.heap.size + 1 := ⟨_, rfl⟩
  obtain ⟨gsx, hgs⟩ : ∃ x, x = w1.heap.size := ⟨_, rfl⟩
  rw [← hgm] at pmx ⊢
  rw [← hgs] at psx ⊢
  have hV1 := below_on hbw1 hbV1
  have HIx := Lib.hid (hin.below hbV1)
  clear qV1 hgm hgs hin
  go_upto_region 3 with (go_at_call 12; refine (HPB.out _).mono ?_; rintro e w2 ⟨yk, yn, yA1, ym1, yd1, yng, yA2, ym2, yd2, yA3, ym3, yd3, rfl, hin, hbw2⟩)
  skip
  obtain ⟨V2, qV2, psy, pmy, hbV2⟩ := two_new w2 #[.int .i64 yk, .string yn, .slice yA1 ym1 yd1, .bool yng, .slice yA2 ym2 yd2, .slice yA3 ym3 yd3] (.int .i64 (c2 : Nat)) (.int .i64 (p2 : Nat))
  rw [← qV2]
  obtain ⟨gmy, hgm⟩ : ∃ x, x = w2.heap.size + 1 := ⟨_, rfl⟩
  obtain ⟨gsy, hgs⟩ : ∃ x, x = w2.heap.size := ⟨_, rfl⟩
  rw [← hgm] at pmy ⊢
  rw [← hgs] at psy ⊢
  have hV2 := below_on (below_on hV1 hbw2) hbV2
  have HIy := Lib.hid (hin.below hbV2)
  clear qV2 hgm hgs hin
  have hDV2 := hbw2.trans (hbV2.mono hbw2.size)
  replace psx := psx.below hDV2
  replace pmx := pmx.below hDV2
  replace HIx := Lib.hid (HIx.out.below hDV2)
  clear hDV2 hbV1 hbV2 hbw1 hbw2
  go_upto_region 4 with (fail)
  obtain ⟨V3, hV3', pw, hbV3⟩ := made_blk V2 jwords 9
  obtain ⟨gw, hgw⟩ : ∃ x, x = V2.heap.size := ⟨_, rfl⟩
  unfold jwords at hV3'
  rw [← hV3', ← hgw]
  rw [← hgw] at pw
  have hV3 := below_on hV2 hbV3
  replace psx := psx.below hbV3
  replace pmx := pmx.below hbV3
  replace HIx := Lib.hid (HIx.out.below hbV3)
  replace psy := psy.below hbV3
  replace pmy := pmy.below hbV3
  replace HIy := Lib.hid (HIy.out.below hbV3)
  clear hV3' hgw hbV3
  go_upto_region 5 with (fail)
  obtain ⟨V4, hV4', pk', hbV4⟩ := made_blk V3 jkinds 3
  obtain ⟨gk, hgk⟩ : ∃ x, x = V3.heap.size := ⟨_, rfl⟩
  unfold jkinds at hV4'
  rw [← hV4', ← hgk]
  rw [← hgk] at pk'
  have hV4 := below_on hV3 hbV4
  replace pw := pw.below hbV4
  replace psx := psx.below hbV4
  replace pmx := pmx.below hbV4
  replace HIx := Lib.hid (HIx.out.below hbV4)
  replace psy := psy.below hbV4
  replace pmy := pmy.below hbV4
  replace HIy := Lib.hid (HIy.out.below hbV4)
  clear hV4' hgk hbV4
  have e0 := blk_at pw HWR.out
  have e1 := blk_at pk' HKR.out
  obtain ⟨J, hJ⟩ : ∃ J, P.joined A W B = J := ⟨_, rfl⟩
  have hJ' : (⟨#[40]⟩ ++ A ++ ⟨#[41, 32]⟩ ++ W ++ ⟨#[32, 40]⟩ ++ B ++ ⟨#[41]⟩ : ByteArray) = J := hJ
  have hjs : J.size = A.size + W.size + B.size + 6 := by rw [← hJ, joined_size]
  go_upto_region 7 with (go_at_call 31; refine (HPK.out _).mono ?_; rintro e w5 ⟨rfl, rfl⟩)
  clear hJ'
  obtain ⟨_, _, m0, m1'⟩ := pmx.facts
  obtain ⟨_, _, n0, n1'⟩ := pmy.facts
  have HJ := Lib.hid hJ
  have HJS := Lib.hid hjs
  clear hJ hjs
  by_cases h1 : c1 = 0
  rotate_left
  · have q0 : ((c1 : Int) != 0) = true := by simp; omega
    go_wp2_with (first
      | (go_at_call 15; refine (known_w _).mono ?_; rintro e w8 ⟨rfl, hb8⟩))
    go_ret
    exact ⟨rfl, below_on hV4 hb8⟩
  subst h1
  by_cases h2 : c2 = 0
  rotate_left
  · have q0 : ((c2 : Int) != 0) = true := by simp; omega
    go_wp2_with (first
      | (go_at_call 15; refine (known_w _).mono ?_; rintro e w8 ⟨rfl, hb8⟩))
    go_ret
    exact ⟨rfl, below_on hV4 hb8⟩
  subst h2
  by_cases h3 : 4096 < J.size
  · have b3 : decide (4096 < J.size) = true := by simp; omega
    have b5 : decide ((4096 : Int) < (J.size : Int)) = true := by simp; omega
    go_wp2_with (first
      | (go_at_call 15; refine (known_w _).mono ?_; rintro e w8 ⟨rfl, hb8⟩))
    go_ret
    exact ⟨rfl, below_on hV4 hb8⟩
  have b3 : decide (4096 < J.size) = false := by simp; omega
  have b5 : decide ((4096 : Int) < (J.size : Int)) = false := by simp; omega
  have HZA : Hid (P.res A = (0, 0, t)) := Lib.hid (by have := P.res_zero A (by rw [HRA.out]); rw [HRA.out] at this; exact HRA.out.trans this)
  have HZB : Hid (P.res B = (0, 0, u)) := Lib.hid (by have := P.res_zero B (by rw [HRB.out]); rw [HRB.out] at this; exact HRB.out.trans this)
  have hRJ : P.res J = if 60 < (P.nd k [t, u]).depth then (43, 0, t0) else (0, 0, P.nd k [t, u]) := by rw [← HJ.out]; exact P.res_joined HZA.out HZB.out HJW.out (by rw [HJ.out]; omega)
  have hRN : P.res (P.noted A) = if 60 < (P.nd 16 [t]).depth then (43, 0, t0) else (0, 0, P.nd 16 [t]) := P.res_noted HZA.out (by rw [noted_size]; have := HJS.out; omega)
  rw [pair_depth] at hRJ
  rw [one_depth] at hRN
  have HDX := Lib.hid (fun (w : World) (R : Nat → Prop) (v : Value) (h : T.In w R t v) => rdepth_t 1048576 t w R v (by have := HBT.out; omega) (Nat.le_refl _) h)
  have HDY := Lib.hid (fun (w : World) (R : Nat → Prop) (v : Value) (h : T.In w R u v) => rdepth_t 1048576 u w R v (by have := HBU.out; omega) (Nat.le_refl _) h)
  by_cases hd : 60 ≤ t.depth ∨ 60 ≤ u.depth
  · rw [if_pos (by omega)] at hRJ
    have HPJ := Lib.hid (fun (w : World) => by have := parse_o w J; rw [hRJ] at this; exact this)
    clear hRJ hRN h3
    go_upto_region 10 with (go_at_call 12; refine (HPJ.out _).mono ?_; rintro e w6 ⟨jk, jn, jA1, jm1, jd1, jng, jA2, jm2, jd2, jA3, jm3, jd3, rfl, hin, hbw6⟩)
    clear m0 m1' n0 n1'
    skip
    obtain ⟨V6, qV6, psj, pmj, hbV6⟩ := two_new w6 #[.int .i64 jk, .string jn, .slice jA1 jm1 jd1, .bool jng, .slice jA2 jm2 jd2, .slice jA3 jm3 jd3] (.int .i64 43) (.int .i64 0)
    rw [← qV6]
    obtain ⟨gmj, hgm⟩ : ∃ x, x = w6.heap.size + 1 := ⟨_, rfl⟩
    obtain ⟨gsj, hgs⟩ : ∃ x, x = w6.heap.size := ⟨_, rfl⟩
    rw [← hgm] at pmj ⊢
    rw [← hgs] at psj ⊢
    have hV6 := below_on (below_on hV4 hbw6) hbV6
    have HIj := Lib.hid (hin.below hbV6)
    clear qV6 hgm hgs hin
    have hDV6 := hbw6.trans (hbV6.mono hbw6.size)
    replace psx := psx.below hDV6
    replace pmx := pmx.below hDV6
    replace HIx := Lib.hid (HIx.out.below hDV6)
    replace psy := psy.below hDV6
    replace pmy := pmy.below hDV6
    replace HIy := Lib.hid (HIy.out.below hDV6)
    replace pk' := pk'.below hDV6
    clear e0 e1
    clear hDV6 hbV6 hbw6
    obtain ⟨x0, x1, x2, x3, x4, x5⟩ := psx.six
    obtain ⟨_, _, m0, m1'⟩ := pmj.facts
    by_cases h60 : 60 ≤ t.depth
    · have d1 : decide ((t.depth : Int) ≥ 60) = true := by simp; omega
      have d2 : decide ((60 : Int) ≤ (t.depth : Int)) = true := by simp; omega
      have d3 : decide (60 ≤ t.depth) = true := by simp; omega
      clear hd
      go_wp2_with (first
        | (go_at_call 32; refine (HDX.out _ _ _ HIx.out).mono ?_; rintro e w7 ⟨rfl, hb7⟩; clear m0 m1' x0 x1 x2 x3 x4 x5; obtain ⟨_, _, m0, m1'⟩ := (pmj.below hb7).facts; have hV7 := below_on hV6 hb7; clear hb7)
        | (go_at_call 15; refine (known_w _).mono ?_; rintro e w8 ⟨rfl, hb8⟩))
      go_ret
      exact ⟨rfl, below_on hV7 hb8⟩
    · have d1 : decide ((t.depth : Int) ≥ 60) = false := by simp; omega
      have d2 : decide ((60 : Int) ≤ (t.depth : Int)) = false := by simp; omega
      have d3 : decide (60 ≤ t.depth) = false := by simp; omega
      have d4 : decide ((u.depth : Int) ≥ 60) = true := by simp; omega
      have d5 : decide ((60 : Int) ≤ (u.depth : Int)) = true := by simp; omega
      have d6 : decide (60 ≤ u.depth) = true := by simp; omega
      clear hd
      go_wp2_with (first
        | (go_at_call 32; refine (HDY.out _ _ _ (HIy.out.below hb7)).mono ?_; rintro e w9 ⟨rfl, hb9⟩; have hV9 := below_on hV7 hb9; clear x0 x1 x2 x3 x4 x5; obtain ⟨_, _, m0, m1'⟩ := ((pmj.below hb7).below hb9).facts; clear hb9)
        | (go_at_call 32; refine (HDX.out _ _ _ HIx.out).mono ?_; rintro e w7 ⟨rfl, hb7⟩; have hV7 := below_on hV6 hb7; clear m0 m1' x0 x1 x2 x3 x4 x5; obtain ⟨x0, x1, x2, x3, x4, x5⟩ := (psy.below hb7).six)
        | (go_at_call 15; refine (known_w _).mono ?_; rintro e w8 ⟨rfl, hb8⟩))
      go_ret
      exact ⟨rfl, below_on hV9 hb8⟩
  · rw [if_neg (by omega)] at hRJ hRN
    obtain ⟨N, hN⟩ : ∃ N, P.noted A = N := ⟨_, rfl⟩
    have hN' : (⟨#[110, 111, 116, 32, 40]⟩ ++ A ++ ⟨#[41]⟩ : ByteArray) = N := hN
    rw [hN] at hRN
    have HPJ := Lib.hid (fun (w : World) => parse_k w J _ hRJ)
    have HPN := Lib.hid (fun (w : World) => parse_k w N _ hRN)
    have d1 : decide ((t.depth : Int) ≥ 60) = false := by simp; omega
    have d2 : decide ((60 : Int) ≤ (t.depth : Int)) = false := by simp; omega
    have d3 : decide (60 ≤ t.depth) = false := by simp; omega
    have d4 : decide ((u.depth : Int) ≥ 60) = false := by simp; omega
    have d5 : decide ((60 : Int) ≤ (u.depth : Int)) = false := by simp; omega
    have d6 : decide (60 ≤ u.depth) = false := by simp; omega
    clear hRJ hRN h3 hd hN
    go_upto_region 10 with (go_at_call 12; refine (HPJ.out _).mono ?_; rintro e w6 ⟨jk, jn, jA1, jm1, jd1, jng, jA2, jm2, jd2, jA3, jm3, jd3, rfl, hin, hbw6⟩)
    clear m0 m1' n0 n1'
    skip
    obtain ⟨V6, qV6, psj, pmj, hbV6⟩ := two_new w6 #[.int .i64 jk, .string jn, .slice jA1 jm1 jd1, .bool jng, .slice jA2 jm2 jd2, .slice jA3 jm3 jd3] (.int .i64 0) (.int .i64 0)
    rw [← qV6]
    obtain ⟨gmj, hgm⟩ : ∃ x, x = w6.heap.size + 1 := ⟨_, rfl⟩
    obtain ⟨gsj, hgs⟩ : ∃ x, x = w6.heap.size := ⟨_, rfl⟩
    rw [← hgm] at pmj ⊢
    rw [← hgs] at psj ⊢
    have hV6 := below_on (below_on hV4 hbw6) hbV6
    have HIj := Lib.hid (hin.below hbV6)
    clear qV6 hgm hgs hin
    have hDV6 := hbw6.trans (hbV6.mono hbw6.size)
    replace psx := psx.below hDV6
    replace pmx := pmx.below hDV6
    replace HIx := Lib.hid (HIx.out.below hDV6)
    replace psy := psy.below hDV6
    replace pmy := pmy.below hDV6
    replace HIy := Lib.hid (HIy.out.below hDV6)
    replace pk' := pk'.below hDV6
    clear e0 e1
    clear hDV6 hbV6 hbw6
    obtain ⟨x0, x1, x2, x3, x4, x5⟩ := psx.six
    go_upto_region 12 with (first
      | (go_at_call 32; refine (HDY.out _ _ _ (HIy.out.below hb7)).mono ?_; rintro e w8 ⟨rfl, hb8⟩; have hV8 := below_on hV7 hb8; clear x0 x1 x2 x3 x4 x5)
      | (go_at_call 32; refine (HDX.out _ _ _ HIx.out).mono ?_; rintro e w7 ⟨rfl, hb7⟩; have hV7 := below_on hV6 hb7; clear x0 x1 x2 x3 x4 x5; obtain ⟨x0, x1, x2, x3, x4, x5⟩ := (psy.below hb7).six))
    have hb78 := hb7.trans (hb8.mono hb7.size)
    replace psx := psx.below hb78
    replace pmx := pmx.below hb78
    replace HIx := Lib.hid (HIx.out.below hb78)
    replace psy := psy.below hb78
    replace pmy := pmy.below hb78
    replace HIy := Lib.hid (HIy.out.below hb78)
    replace psj := psj.below hb78
    replace pmj := pmj.below hb78
    replace HIj := Lib.hid (HIj.out.below hb78)
    replace pk' := pk'.below hb78
    clear hb7 hb8 hb78
    go_upto_region 13 with (go_at_call 12; refine (HPN.out _).mono ?_; rintro e w9 ⟨nk, nn, nA1, nm1, nd1, nng, nA2, nm2, nd2, nA3, nm3, nd3, rfl, hin, hbw9⟩)
    skip
    obtain ⟨V9, qV9, psn, pmn, hbV9⟩ := two_new w9 #[.int .i64 nk, .string nn, .slice nA1 nm1 nd1, .bool nng, .slice nA2 nm2 nd2, .slice nA3 nm3 nd3] (.int .i64 0) (.int .i64 0)
    rw [← qV9]
    obtain ⟨gmn, hgm⟩ : ∃ x, x = w9.heap.size + 1 := ⟨_, rfl⟩
    obtain ⟨gsn, hgs⟩ : ∃ x, x = w9.heap.size := ⟨_, rfl⟩
    rw [← hgm] at pmn ⊢
    rw [← hgs] at psn ⊢
    have hV9 := below_on (below_on hV8 hbw9) hbV9
    have HIn := Lib.hid (hin.below hbV9)
    clear qV9 hgm hgs hin
    have hDV9 := hbw9.trans (hbV9.mono hbw9.size)
    replace psx := psx.below hDV9
    replace pmx := pmx.below hDV9
    replace HIx := Lib.hid (HIx.out.below hDV9)
    replace psy := psy.below hDV9
    replace pmy := pmy.below hDV9
    replace HIy := Lib.hid (HIy.out.below hDV9)
    replace psj := psj.below hDV9
    replace pmj := pmj.below hDV9
    replace HIj := Lib.hid (HIj.out.below hDV9)
    replace pk' := pk'.below hDV9
    clear hDV9 hbV9 hbw9 hN'
    obtain ⟨x0, x1, x2, x3, x4, x5⟩ := psx.six
    obtain ⟨y0, y1, y2, y3, y4, y5⟩ := psy.six
    obtain ⟨z0, z1, z2, z3, z4, z5⟩ := psj.six
    obtain ⟨v0, v1, v2, v3, v4, v5⟩ := psn.six
    obtain ⟨_, _, m0, m1'⟩ := pmj.facts
    obtain ⟨_, _, n0, n1'⟩ := pmn.facts
    have e1 := blk_at pk' HKR.out
    have hbp : (P.nd k [t, u]).bulk ≤ 1048576 := by rw [pair_bulk]; have := HBT.out; have := HBU.out; omega
    have hbo : (P.nd 16 [t]).bulk ≤ 1048576 := by rw [one_bulk]; have := HBT.out; omega
    have hS0 : ∀ w', Below V9.heap.size V9 w' → (fun w' => ((w'.cell? ⟨gsx, 0, none⟩ = some (.int .i64 xk) ∧ w'.cell? ⟨gsx, 1, none⟩ = some (.string xn) ∧ w'.cell? ⟨gsx, 2, none⟩ = some (.slice xA1 xm1 xd1) ∧ w'.cell? ⟨gsx, 3, none⟩ = some (.bool xng) ∧ w'.cell? ⟨gsx, 4, none⟩ = some (.slice xA2 xm2 xd2) ∧ w'.cell? ⟨gsx, 5, none⟩ = some (.slice xA3 xm3 xd3)) ∧ (w'.cell? ⟨gsy, 0, none⟩ = some (.int .i64 yk) ∧ w'.cell? ⟨gsy, 1, none⟩ = some (.string yn) ∧ w'.cell? ⟨gsy, 2, none⟩ = some (.slice yA1 ym1 yd1) ∧ w'.cell? ⟨gsy, 3, none⟩ = some (.bool yng) ∧ w'.cell? ⟨gsy, 4, none⟩ = some (.slice yA2 ym2 yd2) ∧ w'.cell? ⟨gsy, 5, none⟩ = some (.slice yA3 ym3 yd3)) ∧ (w'.cell? ⟨gsj, 0, none⟩ = some (.int .i64 jk) ∧ w'.cell? ⟨gsj, 1, none⟩ = some (.string jn) ∧ w'.cell? ⟨gsj, 2, none⟩ = some (.slice jA1 jm1 jd1) ∧ w'.cell? ⟨gsj, 3, none⟩ = some (.bool jng) ∧ w'.cell? ⟨gsj, 4, none⟩ = some (.slice jA2 jm2 jd2) ∧ w'.cell? ⟨gsj, 5, none⟩ = some (.slice jA3 jm3 jd3)) ∧ (w'.cell? ⟨gsn, 0, none⟩ = some (.int .i64 nk) ∧ w'.cell? ⟨gsn, 1, none⟩ = some (.string nn) ∧ w'.cell? ⟨gsn, 2, none⟩ = some (.slice nA1 nm1 nd1) ∧ w'.cell? ⟨gsn, 3, none⟩ = some (.bool nng) ∧ w'.cell? ⟨gsn, 4, none⟩ = some (.slice nA2 nm2 nd2) ∧ w'.cell? ⟨gsn, 5, none⟩ = some (.slice nA3 nm3 nd3)) ∧ (w'.cell? ⟨gmj, 0, none⟩ = some (.int .i64 0) ∧ w'.cell? ⟨gmj, 1, none⟩ = some (.int .i64 0)) ∧ (w'.cell? ⟨gmn, 0, none⟩ = some (.int .i64 0) ∧ w'.cell? ⟨gmn, 1, none⟩ = some (.int .i64 0)) ∧ w'.cell? ⟨gk, r, none⟩ = some (.int .i64 k)) ∧ Below V9.heap.size V9 w') w' :=
      fun w' h => ⟨⟨(psx.below h).six, (psy.below h).six, (psj.below h).six, (psn.below h).six, (pmj.below h).facts.2.2, (pmn.below h).facts.2.2, keep_cell e1 h⟩, h⟩
    have HS0 := Lib.hid hS0
    clear hS0 x0 x1 x2 x3 x4 x5 y0 y1 y2 y3 y4 y5 z0 z1 z2 z3 z4 z5 v0 v1 v2 v3 v4 v5 m0 m1' n0 n1' e1
    go_region_held3 (fun w' => ((w'.cell? ⟨gsx, 0, none⟩ = some (.int .i64 xk) ∧ w'.cell? ⟨gsx, 1, none⟩ = some (.string xn) ∧ w'.cell? ⟨gsx, 2, none⟩ = some (.slice xA1 xm1 xd1) ∧ w'.cell? ⟨gsx, 3, none⟩ = some (.bool xng) ∧ w'.cell? ⟨gsx, 4, none⟩ = some (.slice xA2 xm2 xd2) ∧ w'.cell? ⟨gsx, 5, none⟩ = some (.slice xA3 xm3 xd3)) ∧ (w'.cell? ⟨gsy, 0, none⟩ = some (.int .i64 yk) ∧ w'.cell? ⟨gsy, 1, none⟩ = some (.string yn) ∧ w'.cell? ⟨gsy, 2, none⟩ = some (.slice yA1 ym1 yd1) ∧ w'.cell? ⟨gsy, 3, none⟩ = some (.bool yng) ∧ w'.cell? ⟨gsy, 4, none⟩ = some (.slice yA2 ym2 yd2) ∧ w'.cell? ⟨gsy, 5, none⟩ = some (.slice yA3 ym3 yd3)) ∧ (w'.cell? ⟨gsj, 0, none⟩ = some (.int .i64 jk) ∧ w'.cell? ⟨gsj, 1, none⟩ = some (.string jn) ∧ w'.cell? ⟨gsj, 2, none⟩ = some (.slice jA1 jm1 jd1) ∧ w'.cell? ⟨gsj, 3, none⟩ = some (.bool jng) ∧ w'.cell? ⟨gsj, 4, none⟩ = some (.slice jA2 jm2 jd2) ∧ w'.cell? ⟨gsj, 5, none⟩ = some (.slice jA3 jm3 jd3)) ∧ (w'.cell? ⟨gsn, 0, none⟩ = some (.int .i64 nk) ∧ w'.cell? ⟨gsn, 1, none⟩ = some (.string nn) ∧ w'.cell? ⟨gsn, 2, none⟩ = some (.slice nA1 nm1 nd1) ∧ w'.cell? ⟨gsn, 3, none⟩ = some (.bool nng) ∧ w'.cell? ⟨gsn, 4, none⟩ = some (.slice nA2 nm2 nd2) ∧ w'.cell? ⟨gsn, 5, none⟩ = some (.slice nA3 nm3 nd3)) ∧ (w'.cell? ⟨gmj, 0, none⟩ = some (.int .i64 0) ∧ w'.cell? ⟨gmj, 1, none⟩ = some (.int .i64 0)) ∧ (w'.cell? ⟨gmn, 0, none⟩ = some (.int .i64 0) ∧ w'.cell? ⟨gmn, 1, none⟩ = some (.int .i64 0)) ∧ w'.cell? ⟨gk, r, none⟩ = some (.int .i64 k)) ∧ Below V9.heap.size V9 w')
      (first | exact HS0.out _ (by with_reducible assumption) | exact HS0.out _ (Below.drew (Below.refl _ _)) | exact HS0.out _ (below_on (s_below (by with_reducible assumption)) (below_alloc1 _ _)))
      (first
        | (go_at_call 13; have hq2 := hq1; refine (exact_t 1048576 (P.nd 16 [t]) _ _ _ _ _ _ hbo hbo (Nat.le_refl _) rfl (HIn.out.below (s_below (by with_reducible assumption))) (in_one (by first | exact blk_newd _ _ _ | exact Blk.new _ _ _) (HIx.out.below (s_below (by with_reducible assumption))) 16)).mono ?_; rintro e wn ⟨rfl, hb⟩; have hS2 := below_on (s_below (by with_reducible assumption)) hb; clear hS hb hq2; have hS := hS2; clear hS2)
        | (go_at_call 13; refine (exact_t 1048576 (P.nd k [t, u]) _ _ _ _ _ _ hbp hbp (Nat.le_refl _) rfl (HIj.out.below (s_below (by with_reducible assumption))) (in_pair (by first | exact blk_newd _ _ _ | exact Blk.new _ _ _) (HIx.out.below (s_below (by with_reducible assumption))) (HIy.out.below (s_below (by with_reducible assumption))) k)).mono ?_; rintro e wn ⟨rfl, hb⟩; have hS := below_on (s_below (by with_reducible assumption)) hb; clear hb; have hq1 := True.intro)
        | (go_at_call 15; refine (known_w _).mono ?_; rintro e wn ⟨rfl, hb⟩; have hS2 := below_on (s_below (by with_reducible assumption)) hb; clear hS hb; have hS := hS2; clear hS2))
    go_wp2_with fail
    go_ret
    exact ⟨rfl, below_on hV9 hS⟩
end Go.Proofs.YthiadenmljbdaaaGreatDoor
end

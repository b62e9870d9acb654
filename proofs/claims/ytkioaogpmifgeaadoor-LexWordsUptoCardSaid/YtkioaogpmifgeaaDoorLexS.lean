/-
  riddlelaw03.sameInt, is, are: contracts.
-/
import Derived.Test.YtkioaogpmifgeaaDoorLexQ
import Derived.Test.YtkioaogpmifgeaaDoorLexG
import Derived.Deep.RegionHeld3
import Derived.BigQuiet
import Derived.StillTailTactics
namespace Go.Proofs.YtkioaogpmifgeaaDoor
open Go.RowKit

theorem s_below {V : Prop} {B : Nat} {wk w : World} (h : V ∧ Below B wk w) : Below B wk w := h.2
theorem MagOf.sl {base : Nat} {w : World} {A : Option Addr} {n c k : Nat} {l : List UInt8} (h : MagOf base w (.slice A n c) k l) : Sl w A n c (if k = 1 then N.ofN (N.val l) else []) := by
  unfold MagOf at h
  split at h
  · rename_i hk
    rw [if_pos hk]
    obtain ⟨g, n', c', e, ho⟩ := h
    injection e with e1 e2 e3
    subst e1; subst e2; subst e3
    exact ho.sl
  · rename_i hk
    rw [if_neg hk]
    injection h with e1 e2 e3
    subst e1; subst e2; subst e3
    exact Sl.nil _ _ _
theorem below_drewN {w w' : World} (h : Below w.heap.size w w') (n : Nat) : Below w.heap.size w (w'.drewN n) := ⟨h.os, h.tape, h.output, h.size, h.block⟩
theorem blk_two (w : World) (t : TypeId) (cs : Array Value) (t' : TypeId) (cs' : Array Value) : ∃ W : World, W = (w.alloc (.cells cs t)).alloc (.cells cs' t') ∧ Blk W w.heap.size t cs ∧ Blk W (w.heap.size + 1) t' cs' ∧ Below w.heap.size w W := by
  refine ⟨_, rfl, (Blk.new w _ _).below (below_alloc1 _ _), ?_, below_on (below_alloc1 _ _) (below_alloc1 _ _)⟩
  have := Blk.new (w.alloc (.cells cs t)) t' cs'
  rwa [show (w.alloc (.cells cs t)).heap.size = w.heap.size + 1 by simp] at this
theorem Blk.drewN {w : World} {b : Nat} {t : TypeId} {cs : Array Value} (h : Blk w b t cs) (n : Nat) : Blk (w.drewN n) b t cs := h
set_option maxRecDepth 100000 in
set_option maxHeartbeats 4000000 in
theorem sameInt_l {w : World} {A B : Option Addr} {n c d : Nat} {xs : List Nat} (ha : Sl w A n c xs) (hb : Sl w B n d xs) (hn : n ≤ 9223372036854775807) :
    Calls Tryd.prog 22 #[.agg #[.bool false, .slice A n c], .agg #[.bool false, .slice B n d]] w fun e w' => e = .returned (.bool true) ∧ Below w.heap.size w w' := by
  obtain ⟨W, hW, p0, p1, hbw⟩ := blk_two w 42 #[.bool false, .slice A n c] 42 #[.bool false, .slice B n d]
  have ha' := ha.below hbw
  have hb' := hb.below hbw
  have HW := Lib.hid hW
  have HLN := Lib.hid ha.len
  have t0 : ((n : Int) != n) = false := by simp
  clear hW ha hb
  go_enter Tryd.func22, Tryd.ntmps22
  go_upto_region 1 with (fail)
  rw [← HW.out]
  clear HW
  obtain ⟨_, c00, c01⟩ := p0.facts2
  obtain ⟨_, c10, c11⟩ := p1.facts2
  go_wp2_with fail
  clear c00 c01 c10 c11
  go_loopg [5] n (fun gk v5 wr => ∃ k : Nat, gk + k = n ∧ v5 = .int .i64 (k : Nat) ∧ Blk wr w.heap.size 42 #[.bool false, .slice A n c] ∧ Blk wr (w.heap.size + 1) 42 #[.bool false, .slice B n d] ∧ Sl wr A n c xs ∧ Sl wr B n d xs ∧ Below w.heap.size w wr)
  case atStart => exact ⟨0, rfl, rfl, p0, p1, ha', hb', hbw⟩
  case round =>
    clear p0 p1 ha' hb' hbw
    obtain ⟨k, hk, rfl, p0, p1, ha, hb, hbw⟩ := hrel
    obtain ⟨_, c00, c01⟩ := p0.facts2
    obtain ⟨_, c10, c11⟩ := p1.facts2
    by_cases hkn : k < n
    · obtain ⟨b1, o1, rfl, hc1⟩ := ha.cells (by omega)
      obtain ⟨b2, o2, rfl, hc2⟩ := hb.cells (by omega)
      have h1 := hc1 k hkn
      have h2 := hc2 k hkn
      have h0 : (0 : Int) ≤ k := by omega
      have hkn' : (k : Int) < n := by omega
      have t1 : ((N.dg xs k : Int) != (N.dg xs k : Int)) = false := by simp
      clear hc1 hc2
      go_wp2_with fail
      go_quiet (fail)
      go_wp2_with fail
      go_roundg (gk - 1)
      case measure => omega
      case rel => exact ⟨k + 1, by omega, by go_num, p0.drewN _, p1.drewN _, ha.drewN _, hb.drewN _, below_drewN hbw _⟩
    · obtain rfl : k = n := by omega
      go_wp2_with fail
      go_ret
      exact ⟨rfl, hbw⟩
set_option maxRecDepth 100000 in
set_option maxHeartbeats 4000000 in
theorem is_l3 {w : World} {A B : Option Addr} {n c d : Nat} {xs : List Nat} (k p : Nat) (T : ByteArray) (ha : Sl w A n c xs) (hb : Sl w B n d xs) (hn : n ≤ 9223372036854775807) :
    Calls Tryd.prog 17 #[.agg #[.int .i64 (k : Nat), .string T, .bool false, .slice A n c, .int .i64 (p : Nat)], .agg #[.int .i64 (k : Nat), .string T, .bool false, .slice B n d, .int .i64 (p : Nat)]] w fun e w' => e = .returned (.bool true) ∧ Below w.heap.size w w' := by
  obtain ⟨W, hW, p0, p1, hbw⟩ := blk_two w 44 #[.int .i64 (k : Nat), .string T, .bool false, .slice A n c, .int .i64 (p : Nat)] 46 #[.int .i64 (k : Nat), .string T, .bool false, .slice B n d, .int .i64 (p : Nat)]
  have ha' := ha.below hbw
  have hb' := hb.below hbw
  have HW := Lib.hid hW
  have t0 : ((k : Int) == k) = true := by simp
  have t1 : ((p : Int) == p) = true := by simp
  have t2 : (T.toList == T.toList) = true := by simp
  clear hW ha hb
  go_enter Tryd.func17, Tryd.ntmps17
  go_upto_region 1 with (fail)
  rw [← HW.out]
  clear HW
  obtain ⟨_, c00, c01, c02, c03, c04⟩ := p0.facts
  obtain ⟨_, c10, c11, c12, c13, c14⟩ := p1.facts
  go_wp2_with (go_at_call 22; refine (sameInt_l ha' hb' hn).mono ?_; rintro e w3 ⟨rfl, hb3⟩; replace p0 := p0.below hb3; replace p1 := p1.below hb3; replace hbw := below_on hbw hb3; clear c00 c01 c02 c03 c04 c10 c11 c12 c13 c14; obtain ⟨_, c00, c01, c02, c03, c04⟩ := p0.facts; obtain ⟨_, c10, c11, c12, c13, c14⟩ := p1.facts)
  go_ret
  exact ⟨rfl, hbw⟩
/-- A list of words in memory: kinds, texts, the numbers' limbs, places. -/
abbrev Wd := Nat × ByteArray × List Nat × Nat
def wd0 : Wd := (0, ⟨#[]⟩, [], 0)
def ArrT (w : World) (v : Value) (ts : List Wd) : Prop := ∃ A c, v = .slice A ts.length c ∧ (0 < ts.length → ∃ g, A = some ⟨g, 0, none⟩ ∧ ∀ i, i < ts.length → ∃ B m d, w.cell? ⟨g, i * 5, none⟩ = some (.int .i64 ((ts.getD i wd0).1 : Nat)) ∧ w.cell? ⟨g, i * 5 + 1, none⟩ = some (.string (ts.getD i wd0).2.1) ∧
  w.cell? ⟨g, i * 5 + 2, none⟩ = some (.bool false) ∧ w.cell? ⟨g, i * 5 + 3, none⟩ = some (.slice B m d) ∧ w.cell? ⟨g, i * 5 + 4, none⟩ = some (.int .i64 ((ts.getD i wd0).2.2.2 : Nat)) ∧ Sl w B m d (ts.getD i wd0).2.2.1)
theorem keep_cell {w w' : World} {p : Addr} {v : Value} (h : w.cell? p = some v) (hb : Below w.heap.size w w') : w'.cell? p = some v := (hb.cell (World.block_lt_of_cell? w _ h)).trans h
theorem ArrT.below {w w' : World} {v : Value} {ts : List Wd} (h : ArrT w v ts) (hb : Below w.heap.size w w') : ArrT w' v ts := by
  obtain ⟨A, c, e, h⟩ := h
  refine ⟨A, c, e, fun hn => ?_⟩
  obtain ⟨g, e, hc⟩ := h hn
  refine ⟨g, e, fun i hi => ?_⟩
  obtain ⟨B, m, d, h0, h1, h2, h3, h4, h5⟩ := hc i hi
  exact ⟨B, m, d, keep_cell h0 hb, keep_cell h1 hb, keep_cell h2 hb, keep_cell h3 hb, keep_cell h4 hb, h5.below hb⟩
set_option maxRecDepth 100000 in
set_option maxHeartbeats 4000000 in
theorem are_l {w : World} {v u : Value} {ts : List Wd} (ha : ArrT w v ts) (hb : ArrT w u ts) (hn : ts.length ≤ 1048576) (hm : ∀ i, i < ts.length → (ts.getD i wd0).2.2.1.length ≤ 9223372036854775807) :
    Calls Tryd.prog 10 #[v, u] w fun e w' => e = .returned (.bool true) ∧ Below w.heap.size w w' := by
  obtain ⟨A, c, rfl, ha⟩ := ha
  obtain ⟨B, d, rfl, hb⟩ := hb
  obtain ⟨n, hnn⟩ : ∃ n, ts.length = n := ⟨_, rfl⟩
  rw [hnn] at ha hb hn hm ⊢
  have t0 : ((n : Int) != n) = false := by simp
  have HA := Lib.hid ha
  have HB := Lib.hid hb
  have HM := Lib.hid hm
  clear ha hb hm
  go_enter Tryd.func10, Tryd.ntmps10
  go_wp2_with fail
  go_loopg [5] n (fun gk v5 wr => ∃ k : Nat, gk + k = n ∧ v5 = .int .i64 (k : Nat) ∧ Below w.heap.size w wr)
  case atStart => exact ⟨0, rfl, rfl, Below.refl _ _⟩
  case round =>
    obtain ⟨k, hk, rfl, hS⟩ := hrel
    by_cases hkn : k < n
    · obtain ⟨g, rfl, hc⟩ := HA.out (by omega)
      obtain ⟨g', rfl, hc'⟩ := HB.out (by omega)
      obtain ⟨B1, m1, d1, a0, a1, a2, a3, a4, a5⟩ := hc k hkn
      obtain ⟨B2, m2, d2, b0, b1, b2, b3, b4, b5⟩ := hc' k hkn
      obtain ⟨⟨kd, T, xs, p⟩, ht⟩ : ∃ t, ts.getD k wd0 = t := ⟨_, rfl⟩
      have hml := HM.out k hkn
      rw [ht] at a0 a1 a4 a5 b0 b1 b4 b5 hml
      dsimp only at a0 a1 a4 a5 b0 b1 b4 b5 hml
      obtain rfl : m2 = m1 := by rw [← b5.len, ← a5.len]
      have hm1 : m2 ≤ 9223372036854775807 := by rw [← a5.len]; omega
      have HST := Lib.hid (fun (w' : World) (h : Below w.heap.size w w') => is_l3 kd p T (a5.below h) (b5.below h) hm1)
      have hj0 : (0 : Int) ≤ k := by omega
      have hjk : (k : Int) < n := by omega
      have hS0 : ∀ w', Below w.heap.size w w' → (fun w' => ((w'.cell? ⟨g, k * 5, none⟩ = some (.int .i64 (kd : Nat)) ∧ w'.cell? ⟨g, k * 5 + 1, none⟩ = some (.string T) ∧ w'.cell? ⟨g, k * 5 + 2, none⟩ = some (.bool false) ∧ w'.cell? ⟨g, k * 5 + 3, none⟩ = some (.slice B1 m2 d1) ∧ w'.cell? ⟨g, k * 5 + 4, none⟩ = some (.int .i64 (p : Nat))) ∧
          (w'.cell? ⟨g', k * 5, none⟩ = some (.int .i64 (kd : Nat)) ∧ w'.cell? ⟨g', k * 5 + 1, none⟩ = some (.string T) ∧ w'.cell? ⟨g', k * 5 + 2, none⟩ = some (.bool false) ∧ w'.cell? ⟨g', k * 5 + 3, none⟩ = some (.slice B2 m2 d2) ∧ w'.cell? ⟨g', k * 5 + 4, none⟩ = some (.int .i64 (p : Nat)))) ∧ Below w.heap.size w w') w' :=
        fun w' h => ⟨⟨⟨keep_cell a0 h, keep_cell a1 h, keep_cell a2 h, keep_cell a3 h, keep_cell a4 h⟩, ⟨keep_cell b0 h, keep_cell b1 h, keep_cell b2 h, keep_cell b3 h, keep_cell b4 h⟩⟩, h⟩
      have HS0 := Lib.hid hS0
      clear hS0 a0 a1 a2 a3 a4 a5 b0 b1 b2 b3 b4 b5 hc hc' ht hml
      go_upto_region 6 with (fail)
      go_region_held3 (fun w' => ((w'.cell? ⟨g, k * 5, none⟩ = some (.int .i64 (kd : Nat)) ∧ w'.cell? ⟨g, k * 5 + 1, none⟩ = some (.string T) ∧ w'.cell? ⟨g, k * 5 + 2, none⟩ = some (.bool false) ∧ w'.cell? ⟨g, k * 5 + 3, none⟩ = some (.slice B1 m2 d1) ∧ w'.cell? ⟨g, k * 5 + 4, none⟩ = some (.int .i64 (p : Nat))) ∧
          (w'.cell? ⟨g', k * 5, none⟩ = some (.int .i64 (kd : Nat)) ∧ w'.cell? ⟨g', k * 5 + 1, none⟩ = some (.string T) ∧ w'.cell? ⟨g', k * 5 + 2, none⟩ = some (.bool false) ∧ w'.cell? ⟨g', k * 5 + 3, none⟩ = some (.slice B2 m2 d2) ∧ w'.cell? ⟨g', k * 5 + 4, none⟩ = some (.int .i64 (p : Nat)))) ∧ Below w.heap.size w w')
        (first | exact HS0.out _ (by with_reducible assumption) | exact HS0.out _ (Below.drew (by with_reducible assumption)))
        (first
          | (go_at_call 17; refine (HST.out _ (s_below (by with_reducible assumption))).mono ?_; rintro e wn ⟨rfl, hb⟩; have hS2 := below_on (s_below (by with_reducible assumption)) hb; clear hS; have hS := hS2; clear hS2 hb))
      go_wp2_with fail
      go_roundg (gk - 1)
      case measure => omega
      case rel => exact ⟨k + 1, by omega, by go_num, hS⟩
    · obtain rfl : k = n := by omega
      go_wp2_with fail
      go_ret
      exact ⟨rfl, hS⟩
/-- Each word's cells, in plain terms. -/
theorem rtok_cells {w : World} {base : Nat} {v : Value} {rs : List Tk} {l : List UInt8} {ps : List (Nat × Nat × Nat)} (hown : OutR w base v rs) (htk : Toks w base l rs ps) (hn : 0 < ps.length) : ∃ g cap, v = .slice (some ⟨g, 0, none⟩) ps.length cap ∧ ∀ i, i < ps.length → ∃ A n c,
    w.cell? ⟨g, i * 5, none⟩ = some (.int .i64 ((ps.getD i (0, 0, 0)).1 : Nat)) ∧ w.cell? ⟨g, i * 5 + 1, none⟩ = some (.string ⟨((l.drop (ps.getD i (0, 0, 0)).2.1).take (ps.getD i (0, 0, 0)).2.2).toArray⟩) ∧ w.cell? ⟨g, i * 5 + 2, none⟩ = some (.bool false) ∧ w.cell? ⟨g, i * 5 + 3, none⟩ = some (.slice A n c) ∧
    w.cell? ⟨g, i * 5 + 4, none⟩ = some (.int .i64 ((ps.getD i (0, 0, 0)).2.1 : Nat)) ∧ MagOf base w (.slice A n c) (ps.getD i (0, 0, 0)).1 ((l.drop (ps.getD i (0, 0, 0)).2.1).take (ps.getD i (0, 0, 0)).2.2) := by
  obtain ⟨g, cap, hv, hc⟩ := hown.cells (by rw [htk.1]; exact hn)
  rw [htk.1] at hv
  refine ⟨g, cap, hv, fun i hi => ?_⟩
  obtain ⟨h1, h2, h3, h4⟩ := htk.2 i hi
  have hcc := hc i (by rw [htk.1]; exact hi)
  obtain ⟨⟨k, T, m, p⟩, hr⟩ : ∃ r, rs.getD i tk0 = r := ⟨_, rfl⟩
  rw [hr] at h1 h2 h3 h4 hcc
  dsimp only at h1 h2 h3 h4
  rw [h1, h3] at h4
  have hT := bytes_ext h3
  have hm : ∃ A n c, m = .slice A n c := by
    unfold MagOf at h4
    split at h4
    · obtain ⟨g', n, c, e, _⟩ := h4; exact ⟨_, _, _, e⟩
    · exact ⟨_, _, _, h4⟩
  obtain ⟨A, n, c, rfl⟩ := hm
  refine ⟨A, n, c, ?_, ?_, ?_, ?_, ?_, h4⟩
  · have := hcc 0 (by omega); rw [Nat.add_zero] at this; rw [this, ← h1]; rfl
  · rw [hcc 1 (by omega), ← hT]; rfl
  · rw [hcc 2 (by omega)]; rfl
  · rw [hcc 3 (by omega)]; rfl
  · rw [hcc 4 (by omega), ← h2]; rfl
/-- The words' readings. -/
def X.tks (l : List UInt8) (ps : List (Nat × Nat × Nat)) : List Wd := ps.map fun p => (p.1, ⟨((l.drop p.2.1).take p.2.2).toArray⟩, (if p.1 = 1 then N.ofN (N.val ((l.drop p.2.1).take p.2.2)) else []), p.2.1)
theorem X.tks_get (l : List UInt8) (ps : List (Nat × Nat × Nat)) (i : Nat) (h : i < ps.length) : (X.tks l ps).getD i wd0 = ((ps.getD i (0, 0, 0)).1, ⟨((l.drop (ps.getD i (0, 0, 0)).2.1).take (ps.getD i (0, 0, 0)).2.2).toArray⟩, (if (ps.getD i (0, 0, 0)).1 = 1 then N.ofN (N.val ((l.drop (ps.getD i (0, 0, 0)).2.1).take (ps.getD i (0, 0, 0)).2.2)) else []), (ps.getD i (0, 0, 0)).2.1) := by
  simp [X.tks, List.getD, h]
theorem X.tks_len (l : List UInt8) (ps : List (Nat × Nat × Nat)) : (X.tks l ps).length = ps.length := by simp [X.tks]
theorem MagOf.len {base : Nat} {w : World} {m : Value} {k : Nat} {l : List UInt8} (h : MagOf base w m k l) : (if k = 1 then N.ofN (N.val l) else []).length ≤ 9223372036854775807 := by
  unfold MagOf at h
  split at h
  · rename_i hk
    rw [if_pos hk]
    obtain ⟨g, n, c, _, ho⟩ := h
    rcases ho.own.2 with ⟨e, _⟩ | ⟨g', cap, cur, e, _, _, hle, hm, _⟩
    · cases e
    · have := ho.len
      unfold maxLen at hm
      omega
  · rename_i hk
    rw [if_neg hk]; simp
theorem tok_arr {w : World} {base : Nat} {v : Value} {rs : List Tk} {l : List UInt8} {ps : List (Nat × Nat × Nat)} (hown : OutT w base v rs) (htk : Toks w base l rs ps) : ArrT w v (X.tks l ps) := by
  rcases Nat.eq_zero_or_pos ps.length with h0 | h0
  · obtain ⟨A, c, e⟩ := hown.slice
    exact ⟨A, c, by rw [X.tks_len, e, htk.1], fun h => by rw [X.tks_len] at h; omega⟩
  · obtain ⟨g, cap, e, hc⟩ := tok_cells hown htk h0
    refine ⟨_, cap, by rw [X.tks_len]; exact e, fun _ => ⟨g, rfl, fun i hi => ?_⟩⟩
    rw [X.tks_len] at hi
    rw [X.tks_get _ _ _ hi]
    obtain ⟨A, n, c, k0, k1, k2, k3, k4, hm⟩ := hc i hi
    exact ⟨A, n, c, k0, k1, k2, k3, k4, hm.sl⟩
theorem rtok_arr {w : World} {base : Nat} {v : Value} {rs : List Tk} {l : List UInt8} {ps : List (Nat × Nat × Nat)} (hown : OutR w base v rs) (htk : Toks w base l rs ps) : ArrT w v (X.tks l ps) := by
  rcases Nat.eq_zero_or_pos ps.length with h0 | h0
  · obtain ⟨A, c, e⟩ := hown.slice
    exact ⟨A, c, by rw [X.tks_len, e, htk.1], fun h => by rw [X.tks_len] at h; omega⟩
  · obtain ⟨g, cap, e, hc⟩ := rtok_cells hown htk h0
    refine ⟨_, cap, by rw [X.tks_len]; exact e, fun _ => ⟨g, rfl, fun i hi => ?_⟩⟩
    rw [X.tks_len] at hi
    rw [X.tks_get _ _ _ hi]
    obtain ⟨A, n, c, k0, k1, k2, k3, k4, hm⟩ := hc i hi
    exact ⟨A, n, c, k0, k1, k2, k3, k4, hm.sl⟩
theorem Toks.lens {w : World} {base : Nat} {rs : List Tk} {l : List UInt8} {ps : List (Nat × Nat × Nat)} (htk : Toks w base l rs ps) : ∀ i, i < (X.tks l ps).length → ((X.tks l ps).getD i wd0).2.2.1.length ≤ 9223372036854775807 := fun i hi => by
  rw [X.tks_len] at hi
  rw [X.tks_get _ _ _ hi]
  obtain ⟨h1, h2, h3, h4⟩ := htk.2 i hi
  rw [h1, h3] at h4
  exact h4.len
end Go.Proofs.YtkioaogpmifgeaaDoor

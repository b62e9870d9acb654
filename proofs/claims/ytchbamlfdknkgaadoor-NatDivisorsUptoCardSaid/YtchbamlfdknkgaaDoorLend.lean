/-
  riddlelaw01: lend, list, is: contracts.
-/
import Derived.Test.YtchbamlfdknkgaaDoorRLcm
import Derived.Test.YtchbamlfdknkgaaDoorSpoil
import Derived.Laws.Rows
import Derived.BigQuiet
namespace Go.Proofs.YtchbamlfdknkgaaDoor
open Go.RowKit

theorem lend_cells {w wr w2 : World} {t : TypeId} {v0 v1 v2 : Value} (hb : Below (w.heap.size + 1) (w.alloc (.cells #[v0, v1, v2] t)) wr) (hb2 : Below wr.heap.size wr w2) :
    w2.frozen? ⟨w.heap.size, 0, none⟩ = false ∧ w2.frozen? ⟨w.heap.size, 1, none⟩ = false ∧ w2.frozen? ⟨w.heap.size, 2, none⟩ = false ∧ w2.cell? ⟨w.heap.size, 0, none⟩ = some v0 ∧ w2.cell? ⟨w.heap.size, 1, none⟩ = some v1 ∧ w2.cell? ⟨w.heap.size, 2, none⟩ = some v2 := by
  have h1 : w2.heap[w.heap.size]? = some (.cells #[v0, v1, v2] t (0, 0)) := by
    have hz := hb.size
    simp only [World.size_alloc] at hz
    rw [hb2.block _ (by omega), hb.block _ (by omega)]
    exact heap_alloc_new w _
  refine ⟨frozen_of_row _ _ _ _ _ h1, frozen_of_row _ _ _ _ _ h1, frozen_of_row _ _ _ _ _ h1, ?_, ?_, ?_⟩ <;> rw [cell_of_row _ _ _ _ _ _ h1] <;> rfl

theorem lend_row {w wr w2 : World} {t : TypeId} {v0 v1 v2 : Value} (hb : Below (w.heap.size + 1) (w.alloc (.cells #[v0, v1, v2] t)) wr) (hb2 : Below wr.heap.size wr w2) (u0 u1 u2 : Value) :
    (((w2.setCell ⟨w.heap.size, 0, none⟩ u0).setCell ⟨w.heap.size, 1, none⟩ u1).setCell ⟨w.heap.size, 2, none⟩ u2).heap[w.heap.size]? = some (.cells #[u0, u1, u2] t (0, 0)) := by
  have h1 : w2.heap[w.heap.size]? = some (.cells #[v0, v1, v2] t (0, 0)) := by
    have hz := hb.size
    simp only [World.size_alloc] at hz
    rw [hb2.block _ (by omega), hb.block _ (by omega)]
    exact heap_alloc_new w _
  have h2 := heap_setCell_same _ _ 0 _ _ u0 h1
  have h3 := heap_setCell_same _ _ 1 _ _ u1 h2
  have h4 := heap_setCell_same _ _ 2 _ _ u2 h3
  exact h4
theorem sizeLoan : (Tryd.prog.info? 53).map (·.size) = some 3 := by kernel_rfl

set_option maxRecDepth 100000 in
set_option maxHeartbeats 1600000 in
theorem lend_any (w : World) (A : Option Addr) (n c : Nat) (a : List Nat) (ha : Sl w A n c a) (hn : n ≤ 17592186044416) :
    Calls Tryd.prog 33 #[.slice A n c] w fun e w' => ∃ gf gw l, e = .returned (.agg #[.slice (some ⟨gf, 0, none⟩) (n + 4) (n + 4), .int .i64 n, .slice (some ⟨gw, 0, none⟩) (n + 4) (n + 4)]) ∧ Own w' w.heap.size gf (n + 4) (n + 4) l ∧ Own w' w.heap.size gw (n + 4) (n + 4) l ∧ l.take n = a ∧ Below w.heap.size w w' := by
  obtain ⟨i0, hi, hz0, hz1, hz2⟩ := info_parts info_u32
  have hlen := ha.len
  have HLEN := Lib.hid hlen
  clear hlen
  go_enter Tryd.func33, Tryd.ntmps33
  have hsz : (w.alloc (.cells #[Value.slice none 0 0, .int .i64 0, Value.slice none 0 0] 53)).heap.size = w.heap.size + 1 := by simp
  have HSZ := Lib.hid hsz
  clear hsz
  have hb0 : Below w.heap.size w (w.alloc (.cells #[Value.slice none 0 0, .int .i64 0, Value.slice none 0 0] 53)) := (Below.refl _ _).alloc (Nat.le_refl _) _
  have ha0 := ha.below hb0
  have hmin : n = Nat.min n (n + 4) := (Nat.min_eq_left (by omega)).symm
  have HMIN := Lib.hid hmin
  clear hmin
  go_wp2_with (first
    | (at_make; refine wpList_make_lim _ rfl (.tmp 8) (.tmp 8) 40 rfl i0 Tryd.underlying40 hi hz0 hz1 hz2 .i64 .i64 _ _ (n + 4) rfl rfl (by omega) (by omega) (by omega) ?_; intro w1 ho1 hb1; have hs1 := ha0.below hb1; rw [HSZ.out] at ho1 hb1)
    | (with_reducible refine at_copy ?_; refine wpList_copy_lim rfl (.tmp 10) (.tmp 11) _ _ rfl Tryd.underlying40 info_size32 _ _ _ _ _ _ rfl rfl _ _ _ _ 0 _ ho1 a hs1 n HMIN.out (fun _ => rfl) (by omega) (splice (List.replicate (n + 4) 0) 0 (a.take n)) rfl _ _ hb1 (Nat.le_refl _) ?_; intro w2 ho2 hb2))
  clear ho1 hs1 hb1
  go_loopw [4] (fun v4 wr => ∃ (k : Nat) (l : List Nat), n ≤ k ∧ k ≤ n + 4 ∧ v4 = .int .i64 k ∧ Own wr (w.heap.size + 1) (w.heap.size + 1) (n + 4) (n + 4) l ∧ l.take n = a ∧ Below (w.heap.size + 1) (w.alloc (.cells #[Value.slice none 0 0, .int .i64 0, Value.slice none 0 0] 53)) wr) (fun v4 _ => n + 4 - (intOf v4).toNat)
  case atStart =>
    refine ⟨n, _, Nat.le_refl _, by omega, rfl, ho2, ?_, hb2⟩
    rw [List.take_of_length_le (l := a) (by rw [HLEN.out]; exact Nat.le_refl _)]
    simp [splice, HLEN.out]
  case round =>
    clear ho2 hb2
    obtain ⟨k, l, hk1, hk2, rfl, hown, htake, hbw⟩ := hrel
    have HT := Lib.hid htake
    clear htake
    by_cases hkn : k < n + 4
    · have hc := hown.cell k hkn
      have hf := hown.free k
      go_wp2_with fail
      go_roundw
      case rel =>
        refine ⟨k + 1, _, by omega, by omega, by go_num, hown.set' k ((7000 + k % 4294967296) % 4294967296) (Nat.mod_lt _ (by omega)) _ ?_, ?_, hbw.setCell (Nat.le_refl _) _⟩
        · omega
        · rw [List.take_set_of_le (by omega)]; exact HT.out
      case measure => simp [intOf]; omega
    · obtain rfl : k = n + 4 := by omega
      go_wp2_with (first
        | (at_make; refine wpList_make_lim _ rfl (.tmp 28) (.tmp 28) 40 rfl i0 Tryd.underlying40 hi hz0 hz1 hz2 .i64 .i64 _ _ (n + 4) rfl rfl (by omega) (by omega) (by omega) ?_; intro w1 ho1 hb1; have hs1 := hown.below hb1)
        | (with_reducible refine at_copy ?_; refine wpList_copy_lim rfl (.tmp 30) (.tmp 31) _ _ rfl Tryd.underlying40 info_size32 _ _ _ _ _ _ rfl rfl _ _ _ _ 0 _ ho1 l hs1.sl (n + 4) (Nat.min_self (n + 4)).symm (fun _ => rfl) (by omega) l (by rw [List.take_of_length_le (by rw [hs1.len]; exact Nat.le_refl _)]; exact splice_all _ _ hs1.len) _ _ hb1 (Nat.le_refl _) ?_; intro w2 ho2 hb2; obtain ⟨hf0, hf1, hf2, hc0, hc1, hc2⟩ := lend_cells hbw hb2))
      have hrow := lend_row hbw hb2 (.slice (some ⟨w.heap.size + 1, 0, none⟩) (n + 4) (n + 4)) (.int .i64 n) (.slice (some ⟨wr.heap.size, 0, none⟩) (n + 4) (n + 4))
      refine bodyPost_ret (results_cell_row rfl _ _ _ _ _ _ _ rfl hrow Tryd.underlying53 rfl sizeLoan) rfl ?_
      have hz := hbw.size
      rw [HSZ.out] at hz
      have hz2 := hb2.size
      refine ⟨_, _, l, rfl, ?_, ?_, HT.out, ?_⟩
      · have h1 := ((((hown.below hb2).far (show w.heap.size + 1 ≠ w.heap.size by omega) 0 (.slice (some ⟨w.heap.size + 1, 0, none⟩) (n + 4) (n + 4))).far (show w.heap.size + 1 ≠ w.heap.size by omega) 1 (.int .i64 n)).far (show w.heap.size + 1 ≠ w.heap.size by omega) 2 (.slice (some ⟨wr.heap.size, 0, none⟩) (n + 4) (n + 4)))
        exact h1.mono (by omega)
      · have h1 := (((ho2.far (show wr.heap.size ≠ w.heap.size by omega) 0 (.slice (some ⟨w.heap.size + 1, 0, none⟩) (n + 4) (n + 4))).far (show wr.heap.size ≠ w.heap.size by omega) 1 (.int .i64 n)).far (show wr.heap.size ≠ w.heap.size by omega) 2 (.slice (some ⟨wr.heap.size, 0, none⟩) (n + 4) (n + 4)))
        exact h1.mono (by omega)
      · have h0 : Below (w.heap.size + 1) _ w2 := hbw.trans (hb2.mono hz)
        have h1 := hb0.trans (h0.mono (by omega))
        exact ((h1.setCell (Nat.le_refl _) _).setCell (Nat.le_refl _) _).setCell (Nat.le_refl _) _

set_option maxRecDepth 100000 in
set_option maxHeartbeats 800000 in
theorem list_any (w : World) (gf n : Nat) (W : Value) (hn : n ≤ 17592186044416) :
    Calls Tryd.prog 35 #[.agg #[.slice (some ⟨gf, 0, none⟩) (n + 4) (n + 4), .int .i64 n, W]] w fun e w' => e = .returned (.slice (some ⟨gf, 0, none⟩) n (n + 4)) ∧ Below w.heap.size w w' := by
  go_enter Tryd.func35, Tryd.ntmps35
  go_wp2_with fail
  go_ret
  exact ⟨rfl, (Below.refl _ _).alloc (Nat.le_refl _) _⟩

set_option maxHeartbeats 400000 in
theorem same_quiet (w : World) (A : Option Addr) (n c : Nat) (a : List Nat) (B : Option Addr) (d : Nat) (ha : Sl w A n c a) (hb : Sl w B n d a) (hn : n ≤ 9223372036854775807) :
    Calls Tryd.prog 51 #[.slice A n c, .slice B n d] w fun e w' => e = .returned (.bool true) ∧ ∃ m, w' = w.drewN m := by
  have t0 : ((n : Int) != n) = false := by simp
  go_enter Tryd.func51, Tryd.ntmps51
  go_wp2_with fail
  go_loopg [5] n (fun gk v5 wr => ∃ k m : Nat, gk + k = n ∧ v5 = .int .i64 (k : Nat) ∧ w.drewN m = wr)
  case atStart => exact ⟨0, 0, rfl, rfl, rfl⟩
  case round =>
    obtain ⟨k, m, hk, rfl, hmw⟩ := hrel
    have ha' : Sl wr A n c a := by rw [← hmw]; exact ha.drewN m
    have hb' : Sl wr B n d a := by rw [← hmw]; exact hb.drewN m
    have HMW := Lib.hid hmw
    clear hmw
    by_cases hkn : k < n
    · obtain ⟨b1, o1, rfl, hc1⟩ := ha'.cells (by omega)
      obtain ⟨b2, o2, rfl, hc2⟩ := hb'.cells (by omega)
      have h1 := hc1 k hkn
      have h2 := hc2 k hkn
      clear hc1 hc2
      have h0 : (0 : Int) ≤ k := by omega
      have hkn' : (k : Int) < n := by omega
      have t1 : ((N.dg a k : Int) != (N.dg a k : Int)) = false := by simp
      go_wp2_with fail
      go_quiet (fail)
      go_wp2_with fail
      go_roundg (gk - 1)
      case measure => omega
      case rel => exact ⟨k + 1, _, by omega, by go_num, by rw [← HMW.out, World.drewN_drewN]⟩
    · obtain rfl : k = n := by omega
      go_wp2_with fail
      go_ret
      exact ⟨rfl, m, HMW.out.symm⟩

/-- The i-th of a row of loans reads as a list that is lent, apart from block g. -/
def LoanRow (w : World) (L g i : Nat) : Prop := ∃ gf gw n l, w.cell? ⟨L, i * 3, none⟩ = some (.slice (some ⟨gf, 0, none⟩) n n) ∧ w.cell? ⟨L, i * 3 + 2, none⟩ = some (.slice (some ⟨gw, 0, none⟩) n n) ∧ Sl w (some ⟨gf, 0, none⟩) n n l ∧ Sl w (some ⟨gw, 0, none⟩) n n l ∧ gf ≠ g ∧ gw ≠ g ∧ n ≤ 35184372088832
theorem LoanRow.grown {w w' : World} {L g i : Nat} (h : LoanRow w L g i) (hg : w.grownBy w' (some g)) (hL : L ≠ g) : LoanRow w' L g i := by
  obtain ⟨gf, gw, n, l, h1, h2, h3, h4, h5, h6, h7⟩ := h
  refine ⟨gf, gw, n, l, hg.cell h1 (by simpa using hL), hg.cell h2 (by simpa using hL), h3.grown hg ?_, h4.grown hg ?_, h5, h6, h7⟩
  · intro ad e; injection e with e; subst e; exact h5
  · intro ad e; injection e with e; subst e; exact h6

set_option maxRecDepth 100000 in
set_option maxHeartbeats 1600000 in
theorem is_any (w : World) (base g n c x : Nat) (B : Option Addr) (m d : Nat) (LA : Option Addr) (L k lc : Nat) (ho : Own w base g n c (N.ofN x)) (hw : Sl w B m d (N.ofN x)) (hn : n ≤ 35184372088832) (hk : k ≤ 2) (hLA : 0 < k → LA = some ⟨L, 0, none⟩) (hLg : 0 < k → L ≠ g) (hl : ∀ i, i < k → LoanRow w L g i) (hlc : k ≤ lc) :
    Calls Tryd.prog 38 #[.slice (some ⟨g, 0, none⟩) n c, .slice B m d, .slice LA k lc] w fun e w' => e = .returned (.bool true) ∧ w.grownBy w' (some g) := by
  have hnm : n = m := by have h1 := ho.len; have h2 := hw.len; omega
  subst hnm
  go_enter Tryd.func38, Tryd.ntmps38
  go_wp2_with fail
  refine (same_any w _ n c _ B d ho.sl hw (by omega)).mono ?_
  rintro e w1 ⟨rfl, hb1⟩
  have ho1 := ho.below hb1
  go_wp2_with fail
  refine (spoil_any w1 base g n c _ ho1).mono ?_
  rintro e w2 ⟨rfl, hg2⟩
  have hg := gb_trans (gb_of_below hb1 (some g)) hg2
  clear hw ho ho1 hb1 hg2
  have HL := Lib.hid hl
  clear hl
  go_wp2_with fail
  go_loopw [7, 8] (fun v7 v8 wr => ∃ i : Nat, i ≤ k ∧ v8 = .int .i64 i ∧ v7 = .bool true ∧ w.grownBy wr (some g)) (fun _ v8 _ => k - (intOf v8).toNat)
  case atStart => exact ⟨0, by omega, rfl, rfl, hg⟩
  case round =>
    clear hg
    obtain ⟨i, hi, rfl, rfl, hg⟩ := hrel
    by_cases hik : i < k
    · obtain ⟨gf, gw, p, l, h1, h2, h3, h4, _, _, h7⟩ := (HL.out i hik).grown hg (hLg (by omega))
      obtain rfl := hLA (by omega)
      go_wp2_with fail
      have hi0 : (0 : Int) ≤ i := by omega
      have hik' : (i : Int) < k := by omega
      go_quiet (first | (go_at_call 51; refine Calls.quiet_of (same_quiet _ _ p p l _ p (h3.drewN _) (h4.drewN _) (by omega))))
      go_wp2_with fail
      go_roundw
      case rel => exact ⟨i + 1, by omega, by go_num, rfl, gb_drewN hg _⟩
      case measure => simp [intOf]; omega
    · obtain rfl : i = k := by omega
      go_wp2_with fail
      go_ret
      exact ⟨rfl, hg⟩
end Go.Proofs.YtchbamlfdknkgaaDoor

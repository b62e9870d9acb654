/-
  riddlelaw02.over: it writes into its answer's block alone.
-/
import Derived.Test.YtiidghfkdjefgaaDoorZLent
import Derived.Test.YtiidghfkdjefgaaDoorZGcd
namespace Go.Proofs.YtiidghfkdjefgaaDoor
open Go.RowKit

/-- What is written over: the list's own block, if it has one. -/
def Wrt (v : Value) (w w' : World) : Prop := (∃ s, v = .agg #[.bool s, .slice none 0 0] ∧ Below w.heap.size w w') ∨
  ∃ s g n c cs, v = .agg #[.bool s, .slice (some ⟨g, 0, none⟩) n c] ∧ w.grownBy w' (some g) ∧ w.heap[g]? = some (.cells cs 65 (0, 0)) ∧ ∀ u ∈ cs.toList, ∃ z : Int, u = .int .u32 z
theorem Wrt.on {v : Value} {B : Nat} {w0 w w' : World} (h : Wrt v w w') (hn : NwI B w v) (hb : Below B w0 w) (hB : B ≤ w0.heap.size) : Below B w0 w' := by
  rcases h with ⟨_, _, h⟩ | ⟨s, g, n, c, cs, rfl, h, _⟩
  · exact on_go hB hb h
  · refine gb_on hb h ?_ hB
    obtain ⟨t, sl, e, h⟩ := hn
    injection e with e; injection e with e; injection e with _ e; injection e with e _
    subst e
    rcases h with h | ⟨a, _, _, _, ea, h1, _⟩
    · cases h
    injection ea with ea _ _; injection ea with ea; injection ea with ea _ _
    omega
theorem Wrt.pair {v : Value} {w w' : World} {b : Nat} {t : TypeId} {p : Bool} {X : Option Addr} {y q : Nat} (h : Wrt v w w') (hp : Pair w b t (.bool p) (.slice X y q)) : Pair w' b t (.bool p) (.slice X y q) := by
  rcases h with ⟨_, _, h⟩ | ⟨s, g, n, c, cs, rfl, h, h1, h2⟩
  · exact hp.below h
  · have hne : b ≠ g := fun e => by
      subst e
      have e2 := h1.symm.trans hp
      injection e2 with e2
      injection e2 with e2
      subst e2
      obtain ⟨z, hz⟩ := h2 (.bool p) (by simp)
      cases hz
    exact gb_pair hp h hne
theorem Wrt.nwi {v u : Value} {base : Nat} {w w' : World} (h : Wrt v w w') (hs : Sep v u) (hn : NwI base w u) : NwI base w' u := by
  rcases h with ⟨_, _, h⟩ | ⟨s, g, n, c, cs, rfl, h, h1, h2⟩
  · exact hn.below h
  obtain ⟨t, sl, rfl, hn⟩ := hn
  rcases hn with rfl | ⟨a, n', c', cs', rfl, k1, k2, k3, k4, k5⟩
  · exact NwI.mk (NwS.nil _ _)
  · have hne := hs s g n c t a n' c' rfl rfl
    exact NwI.mk (.inr ⟨a, n', c', cs', rfl, k1, k2, k3, (h.block a (Array.getElem?_eq_some_iff.1 k4).1 (fun e => hne (by injection e with e; exact e.symm))).trans k4, k5⟩)
theorem Wrt.ican {v u : Value} {base K : Nat} {z : Int} {w w' : World} (h : Wrt v w w') (hs : Sep v u) (hn : NwI base w u) (hc : ICan w u K z) : ICan w' u K z := by
  rcases h with ⟨_, _, h⟩ | ⟨s, g, n, c, cs, rfl, h, h1, h2⟩
  · exact hc.below h
  obtain ⟨sl, rfl, A, m, d, rfl, hP, hsl, hm⟩ := hc
  refine ⟨_, rfl, A, m, d, rfl, hP, ⟨hsl.len, hsl.cap, hsl.lim, fun h0 => ?_⟩, hm⟩
  obtain ⟨b, o, rfl, hcl⟩ := hsl.cells h0
  refine ⟨b, o, rfl, fun k hk => ?_⟩
  obtain ⟨t, sl, e, hn⟩ := hn
  injection e with e; injection e with e; injection e with e0 e; injection e with e _
  subst e
  rcases hn with hn | ⟨a, n', c', cs', ea, _⟩
  · cases hn
  injection ea with ea _ _; injection ea with ea; injection ea with ea ea2 _
  subst ea; subst ea2
  have hne := hs s g n c _ b m d rfl rfl
  have hck := hcl k hk
  exact (World.cell?_of_block (a := ⟨b, 0 + k, none⟩) (h.block b (World.block_lt_of_cell? w _ hck) (fun e => hne (by injection e with e; exact e.symm)))).trans hck
set_option maxRecDepth 100000 in
set_option maxHeartbeats 1600000 in
theorem over_l {w : World} {v : Value} {base : Nat} (h : NwI base w v) :
    Calls Tryd.prog 50 #[v] w fun e w' => e = .returned (.tuple #[]) ∧ Wrt v w w' := by
  obtain ⟨s, sl, rfl, h⟩ := h
  rcases h with rfl | ⟨g, n, c, cs, rfl, _, hnc, hcm, hg, hsz, hu⟩
  · have p0 := Pair.new w 24 (.bool s) (.slice none 0 0)
    obtain ⟨W, hW, hb⟩ : ∃ W : World, W = w.alloc (.cells #[.bool s, .slice none 0 0] 24) ∧ Below w.heap.size w W := ⟨_, rfl, below_alloc1 _ _⟩
    rw [← hW] at p0
    obtain ⟨_, _, c0, c1⟩ := p0.facts
    have HW := Lib.hid hW
    clear hW p0
    go_enter Tryd.func50, Tryd.ntmps50
    go_upto_region 1 with (fail)
    rw [← HW.out]
    go_wp2_with fail
    go_loopw [3] (fun v3 wr => v3 = .int .i64 0 ∧ wr = W) (fun _ _ => 0)
    case atStart => exact ⟨rfl, rfl⟩
    case round =>
      obtain ⟨rfl, hwr⟩ := hrel
      subst hwr
      go_wp2_with fail
      go_end0
      exact ⟨rfl, .inl ⟨s, rfl, hb⟩⟩
  · unfold maxLen at hcm
    have p0 := Pair.new w 24 (.bool s) (.slice (some ⟨g, 0, none⟩) n c)
    obtain ⟨W, hW, hb, hgW⟩ : ∃ W : World, W = w.alloc (.cells #[.bool s, .slice (some ⟨g, 0, none⟩) n c] 24) ∧ Below w.heap.size w W ∧ w.grownBy W (some g) := ⟨_, rfl, below_alloc1 _ _, World.grownBy_alloc w _ _⟩
    rw [← hW] at p0
    obtain ⟨_, _, c0, c1⟩ := p0.facts
    have hgw := (hb.block g (Array.getElem?_eq_some_iff.1 hg).1).trans hg
    have hfull : Full W g c := full_of_ints hgw hu hsz
    have hfree : ∀ k, W.frozen? ⟨g, k, none⟩ = false := fun k => frozen_of_row _ _ _ _ _ hgw
    have HW := Lib.hid hW
    have HU := Lib.hid hu
    clear hW p0 hgw hu hb
    go_enter Tryd.func50, Tryd.ntmps50
    go_upto_region 1 with (fail)
    rw [← HW.out]
    go_wp2_with fail
    clear c0 c1
    go_loopw [3] (fun v3 wr => ∃ k : Nat, k ≤ c ∧ v3 = .int .i64 k ∧ (Full wr g c ∧ ∀ k, wr.frozen? ⟨g, k, none⟩ = false) ∧ w.grownBy wr (some g)) (fun v3 _ => c - (intOf v3).toNat)
    case atStart => exact ⟨0, Nat.zero_le _, rfl, ⟨hfull, hfree⟩, hgW⟩
    case round =>
      clear hfull hfree hgW
      obtain ⟨k, hk, rfl, ⟨hrow, hfr⟩, hgr⟩ := hrel
      by_cases hkn : k < c
      · obtain ⟨z, hz⟩ := hrow k hkn
        have hf := hfr k
        go_wp2_with fail
        go_roundw
        case rel => exact ⟨k + 1, by omega, by go_num, ⟨hrow.set k _, fun j => by rw [World.frozen?_setCell]; exact hfr j⟩, gb_set hgr k _⟩
        case measure => simp [intOf]; omega
      · obtain rfl : k = c := by omega
        go_wp2_with fail
        go_end0
        exact ⟨rfl, .inr ⟨s, g, n, k, cs, rfl, hgr, hg, HU.out⟩⟩
end Go.Proofs.YtiidghfkdjefgaaDoor

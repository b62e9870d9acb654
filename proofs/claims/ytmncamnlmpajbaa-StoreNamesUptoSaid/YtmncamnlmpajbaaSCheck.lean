/-
  syntax.Check: contract.
-/
import Derived.Test.YtmncamnlmpajbaaSMade
import Derived.Deep.CutRange
namespace Go.Proofs.Ytmncamnlmpajbaa
open Go.RowKit

/-- What the program's Check says of a tree. -/
def T.chk (t : T) : Int := if T.made true t = true then (if t.none = true then 11 else if 60 < t.depth then 43 else 0) else 1
set_option maxRecDepth 100000 in
set_option maxHeartbeats 1600000 in
theorem check_t (t : T) (w : World) (R : Nat → Prop) (v : Value) (hN : t.bulk ≤ 1048576) (h : T.In w R t v) :
    Calls Try.prog 35 #[v] w fun e w' => e = .returned (.int .i64 t.chk) ∧ Below w.heap.size w w' := by
  obtain ⟨A1, c1, A2, c2, A3, c3, rfl, _⟩ := h.open
  obtain ⟨n, hn⟩ : ∃ n, t.ks.length = n := ⟨_, rfl⟩
  rw [hn] at h ⊢
  have hal := below_alloc1 w (.cells #[.int .i64 t.k, .string t.nm, .slice A1 t.ns.length c1, .bool t.ng, .slice A2 t.mg.length c2, .slice A3 n c3] 35)
  have HI := Lib.hid (h.below hal)
  have pt := Blk.new w 35 #[.int .i64 t.k, .string t.nm, .slice A1 t.ns.length c1, .bool t.ng, .slice A2 t.mg.length c2, .slice A3 n c3]
  have HAL := Lib.hid hal
  have hd := t.depth_le
  clear hn h hal
  obtain ⟨m, hm⟩ : ∃ m, T.made true t = m := ⟨_, rfl⟩
  obtain ⟨z, hz⟩ : ∃ z, t.none = z := ⟨_, rfl⟩
  have HCK : Hid (t.chk = if m = true then (if z = true then 11 else if 60 < t.depth then 43 else 0) else 1) := Lib.hid (by unfold T.chk; rw [hm, hz])
  obtain ⟨d, hdd⟩ : ∃ d, t.depth = d := ⟨_, rfl⟩
  rw [hdd] at HCK hd
  have HM := Lib.hid hm
  have HZ := Lib.hid hz
  have HD := Lib.hid hdd
  clear hm hz hdd
  cases m
  · go_enter Try.func35, Try.ntmps35
    go_wp2_with (go_at_call 52; refine (made_t 1048576 t _ R _ true hN (by omega) HI.out).mono ?_; rw [HM.out]; rintro e w2 ⟨rfl, hb2⟩)
    go_ret
    exact ⟨by rw [HCK.out]; rfl, below_on HAL.out hb2⟩
  · cases z
    case true =>
      go_enter Try.func35, Try.ntmps35
      go_wp2_with (first
        | (go_at_call 52; refine (made_t 1048576 t _ R _ true hN (by omega) HI.out).mono ?_; rw [HM.out]; rintro e w2 ⟨rfl, hb2⟩; obtain ⟨x0, x1, x2, x3, x4, x5⟩ := (pt.below hb2).six; have HI2 := Lib.hid (HI.out.below hb2))
        | (go_at_call 53; refine (none_t 1048576 t _ R _ hN (by omega) HI2.out).mono ?_; rw [HZ.out]; rintro e w3 ⟨rfl, hb3⟩))
      go_ret
      exact ⟨by rw [HCK.out]; rfl, below_on (below_on HAL.out hb2) hb3⟩
    case false =>
      by_cases h60 : 60 < d
      all_goals
        first
          | have d1 : decide (60 < d) = true := decide_eq_true (by omega)
          | have d1 : decide (60 < d) = false := decide_eq_false (by omega)
        have HC2 := Lib.hid HCK.out
        have d2 : decide ((d : Int) > 60) = decide (60 < d) := by rw [decide_eq_decide]; omega
        rw [d1] at d2
        have H6 := Lib.hid h60
        clear h60
        go_enter Try.func35, Try.ntmps35
        go_wp2_with (first
          | (go_at_call 52; refine (made_t 1048576 t _ R _ true hN (by omega) HI.out).mono ?_; rw [HM.out]; rintro e w2 ⟨rfl, hb2⟩; obtain ⟨x0, x1, x2, x3, x4, x5⟩ := (pt.below hb2).six; have HI2 := Lib.hid (HI.out.below hb2))
          | (go_at_call 53; refine (none_t 1048576 t _ R _ hN (by omega) HI2.out).mono ?_; rw [HZ.out]; rintro e w3 ⟨rfl, hb3⟩; obtain ⟨y0, y1, y2, y3, y4, y5⟩ := (pt.below (below_on hb2 hb3)).six; have HI3 := Lib.hid (HI2.out.below hb3))
          | (go_at_call 54; refine (depth_t 1048576 t _ R _ hN (by omega) HI3.out).mono ?_; rw [HD.out]; rintro e w4 ⟨rfl, hb4⟩))
        go_ret
        exact ⟨by rw [HCK.out]; have := H6.out; simp [this]; try rfl, below_on (below_on (below_on HAL.out hb2) hb3) hb4⟩
end Go.Proofs.Ytmncamnlmpajbaa

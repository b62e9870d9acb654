/-
  syntax.depth, riddleref04.Depth: contracts.
-/
import Derived.Test.YtmncamnlmpajbaaSTree
import Derived.Deep.LoopGhost
namespace Go.Proofs.Ytmncamnlmpajbaa
open Go.RowKit

mutual
/-- A tree's depth. -/
def T.depth : T → Nat
  | .node _ _ _ _ _ ks => T.depths ks + 1
def T.depths : List T → Nat
  | [] => 0
  | t :: r => max t.depth (T.depths r)
end
theorem T.depth_eq (t : T) : t.depth = T.depths t.ks + 1 := by cases t; simp [T.depth, T.ks]
theorem T.depths_snoc : ∀ (l : List T) (t : T), T.depths (l ++ [t]) = max (T.depths l) t.depth
  | [], t => by simp [T.depths]
  | u :: r, t => by simp [T.depths, T.depths_snoc r t, Nat.max_assoc]
mutual
theorem T.depth_le : ∀ (t : T), t.depth ≤ t.bulk
  | .node _ _ _ _ _ ks => by have := T.depths_le ks; simp only [T.depth, T.bulk]; omega
theorem T.depths_le : ∀ (l : List T), T.depths l ≤ T.bulks l
  | [] => by simp [T.depths]
  | t :: r => by have := T.depth_le t; have := T.depths_le r; simp only [T.depths, T.bulks]; omega
end
set_option maxRecDepth 100000 in
set_option maxHeartbeats 1600000 in
theorem depth_t : ∀ (N : Nat) (t : T) (w : World) (R : Nat → Prop) (v : Value), t.bulk ≤ N → N ≤ 1048576 → T.In w R t v →
    Calls Try.prog 54 #[v] w fun e w' => e = .returned (.int .i64 (t.depth : Nat)) ∧ Below w.heap.size w w'
  | 0, t, _, _, _, hN, _, _ => by have := T.bulk_pos t; omega
  | N + 1, t, w, R, v, hN, hN2, h => by
    have ih := depth_t N
    obtain ⟨A1, c1, A2, c2, A3, c3, rfl, _, _, hc3, hkids⟩ := h.open
    obtain ⟨n, hn⟩ : ∃ n, t.ks.length = n := ⟨_, rfl⟩
    have hlen := (T.len_le hN).2.2.2.2
    rw [hn] at hkids hc3 hlen ⊢
    have HN := Lib.hid hn
    have HK := Lib.hid hkids
    have HB := Lib.hid hN
    clear hn hkids hN h
    go_enter Try.func54, Try.ntmps54
    go_wp2_with fail
    go_loopg [3, 9] (n + 1) (fun gk v3 v9 wr => ∃ i : Nat, gk + i = n + 1 ∧ i ≤ n ∧ v9 = .int .i64 (i : Nat) ∧ v3 = .int .i64 (T.depths (t.ks.take i) : Nat) ∧ Below w.heap.size w wr)
    case atStart => exact ⟨0, by omega, Nat.zero_le _, rfl, rfl, below_alloc1 _ _⟩
    case round =>
      obtain ⟨i, hi, hin, rfl, rfl, hbw⟩ := hrel
      by_cases hlt : i < n
      · obtain ⟨b, o, rfl, hk⟩ := HK.out (by omega)
        have hkd := hk i hlt
        obtain ⟨u, hu⟩ : ∃ u, t.ks.getD i t0 = u := ⟨_, rfl⟩
        rw [hu] at hkd
        have hub : u.bulk ≤ N := by rw [← hu]; exact T.kid_bulk HB.out (by rw [HN.out]; exact hlt)
        have hud := T.depth_le u
        have HU := Lib.hid hu
        clear hk hu
        obtain ⟨B1, d1, B2, d2, B3, d3, h6, hin2⟩ := hkd.below hbw
        have hal := below_alloc1 wr (.cells #[.int .i64 u.k, .string u.nm, .slice B1 u.ns.length d1, .bool u.ng, .slice B2 u.mg.length d2, .slice B3 u.ks.length d3] 35)
        have HI := Lib.hid (hin2.below hal)
        have hbw2 := below_on hbw hal
        obtain ⟨e0, e1, e2, e3, e4, e5⟩ := h6
        have hi0 : (0 : Int) ≤ i := by omega
        have hi1 : (i : Int) < n := by omega
        have hnext : T.depths (t.ks.take (i + 1)) = max (T.depths (t.ks.take i)) u.depth := by rw [take_snoc _ t0 _ (by rw [HN.out]; exact hlt), T.depths_snoc, HU.out]
        have HX := Lib.hid hnext
        clear hin2 hal hnext
        go_wp2_with (go_at_call 54; refine (ih u _ R _ hub (by omega) HI.out).mono ?_; rintro e w2 ⟨rfl, hb2⟩; replace hbw2 := below_on hbw2 hb2)
        go_roundg (n - i)
        case measure => omega
        case rel => exact ⟨i + 1, by omega, by omega, by go_num, by rw [HX.out]; go_num, hbw2⟩
      · obtain rfl : i = n := by omega
        have htk : t.ks.take i = t.ks := by rw [← HN.out, List.take_length]
        rw [htk]
        have hdt := T.depth_le t
        rw [T.depth_eq] at hdt
        have hdd : T.depths t.ks ≤ 1048576 := by have := HB.out; omega
        clear htk
        go_wp2_with fail
        go_ret
        exact ⟨by rw [T.depth_eq]; go_num, hbw⟩
end Go.Proofs.Ytmncamnlmpajbaa

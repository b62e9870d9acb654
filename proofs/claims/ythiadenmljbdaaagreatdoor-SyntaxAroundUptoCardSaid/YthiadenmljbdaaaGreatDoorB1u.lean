/-
  u: the parts late YFrame late YRDepth of the proof.
-/
import Derived.Test.YthiadenmljbdaaaGreatDoorCards
import Derived.Test.YthiadenmljbdaaaGreatDoorTie
import Derived.Test.YthiadenmljbdaaaGreatDoorB2s
import Derived.ProofKit
import Derived.OpenShut
import Derived.Deep.DeepHandedRow
import Derived.ChangeMaps5
import Derived.Test.YthiadenmljbdaaaGreatDoorB3s
import Derived.Test.YthiadenmljbdaaaGreatDoorB9s
import Derived.Deep.Cut
section
namespace Go.Proofs.YthiadenmljbdaaaGreatDoor
open Go.RowKit
open Go.ChangeShapes Go.ChangeMaps Go.WideShapes Go.ChangeAt
section
variable {H : Type} {enc : TypeId × Value → H} {W : World}
end
section
variable {H : Type} {enc : TypeId × Value → H} {W : World}
set_option maxRecDepth 100000 in
theorem open_kint {base : Nat} {v : Value} {d : DataW H} {p : List MemPlace} (hval : Value.okWide Tryz.prog W .any base 3 v) (h : DataW.Trod enc Tryz.prog W 0 (fun _ => true) true 3 v d p) :
    (∃ n : Int, v = .int .i64 n ∧ -9223372036854775808 ≤ n ∧ n < 9223372036854775808) ∧ ∀ W', Below W.heap.size W W' → DataW.Trod enc Tryz.prog W' 0 (fun b => decide (b < W.heap.size)) true 3 v d p := by
  obtain ⟨n, rfl, rfl, rfl, hw⟩ := open_int Tryz.underlying3 hval h
  refine ⟨?_, fun W' _ => shut_int Tryz.underlying3 hw⟩
  have hb := bounds_i64 hw
  exact ⟨n, rfl, by omega, by omega⟩
end
end Go.Proofs.YthiadenmljbdaaaGreatDoor
end
section
namespace Go.Proofs.YthiadenmljbdaaaGreatDoor
open Go.RowKit
set_option maxRecDepth 100000 in
set_option maxHeartbeats 1600000 in
theorem rdepth_t : ∀ (N : Nat) (t : T) (w : World) (R : Nat → Prop) (v : Value), t.bulk ≤ N → N ≤ 1048576 → T.In w R t v →
    Calls Tryz.prog 32 #[v] w fun e w' => e = .returned (.int .i64 (t.depth : Nat)) ∧ Below w.heap.size w w'
  | 0, t, _, _, _, hN, _, _ => by have := T.bulk_pos t; omega
  | N + 1, t, w, R, v, hN, hN2, h => by
    have ih := rdepth_t N
    obtain ⟨A1, c1, A2, c2, A3, c3, rfl, hnames, hmag, hc3, hkids⟩ := h.open
    obtain ⟨n, hn⟩ : ∃ n, t.ks.length = n := ⟨_, rfl⟩
    obtain ⟨hl1, hl2, hl3, hl4, hlen⟩ := T.len_le hN
    rw [hn] at hkids hc3 hlen ⊢
    have HN := Lib.hid hn
    have HK := Lib.hid hkids
    have HB := Lib.hid hN
    have HNM := Lib.hid hnames
    have HMG := Lib.hid hmag
    clear hn hkids hN h hnames hmag
    go_enter Tryz.func32, Tryz.ntmps32
    go_upto_region 1 with (fail)
    obtain ⟨W1, hW1, pt, hb1⟩ := made_blk w #[.int .i64 t.k, .string t.nm, .slice A1 t.ns.length c1, .bool t.ng, .slice A2 t.mg.length c2, .slice A3 n c3] 28
    obtain ⟨Bt, hBt⟩ : ∃ b, b = w.heap.size := ⟨_, rfl⟩
    rw [← hW1, ← hBt]
    rw [← hBt] at pt
    clear hW1 hBt
    go_wp2_with fail
    go_loopg [3, 4] (n + 1) (fun gk v3 v4 wr => ∃ i : Nat, gk + i = n + 1 ∧ i ≤ n ∧ v4 = .int .i64 (i : Nat) ∧ v3 = .int .i64 (T.depths (t.ks.take i) : Nat) ∧ Below W1.heap.size W1 wr)
    case atStart => exact ⟨0, by omega, Nat.zero_le _, rfl, rfl, Below.refl _ _⟩
    case round =>
      obtain ⟨i, hi, hin, rfl, rfl, hS⟩ := hrel
      obtain ⟨x0, x1, x2, x3, x4, x5⟩ := (pt.below hS).six
      by_cases hlt : i < n
      · obtain ⟨b, o, rfl, hk⟩ := HK.out (by omega)
        have hkd := hk i hlt
        obtain ⟨u, hu⟩ : ∃ u, t.ks.getD i t0 = u := ⟨_, rfl⟩
        rw [hu] at hkd
        have hub : u.bulk ≤ N := by rw [← hu]; exact T.kid_bulk HB.out (by rw [HN.out]; exact hlt)
        have HU := Lib.hid hu
        clear hk hu
        obtain ⟨B1, d1, B2, d2, B3, d3, h6, hkin⟩ := hkd.below (below_on hb1 hS)
        have HI := Lib.hid hkin
        clear hkin
        obtain ⟨e0, e1, e2, e3, e4, e5⟩ := h6
        have hi0 : (0 : Int) ≤ i := by omega
        have hi1 : (i : Int) < n := by omega
        have hnext : T.depths (t.ks.take (i + 1)) = max (T.depths (t.ks.take i)) u.depth := by rw [take_snoc _ t0 _ (by rw [HN.out]; exact hlt), T.depths_snoc, HU.out]
        have HX := Lib.hid hnext
        clear hnext
        by_cases hd : T.depths (t.ks.take i) < u.depth
        · have q1 : decide ((u.depth : Int) > T.depths (t.ks.take i)) = true := decide_eq_true (by omega)
          have q2 : decide (T.depths (t.ks.take i) < u.depth) = true := decide_eq_true hd
          go_wp2_with (go_at_call 32; refine (ih u _ R _ hub (by omega) HI.out).mono ?_; rintro e w2 ⟨rfl, hb2⟩; have hS2 := below_on hS hb2)
          go_roundg (n - i)
          case measure => omega
          case rel => exact ⟨i + 1, by omega, by omega, by go_num, by rw [HX.out]; go_num, hS2⟩
        · have q1 : decide ((u.depth : Int) > T.depths (t.ks.take i)) = false := decide_eq_false (by omega)
          have q2 : decide (T.depths (t.ks.take i) < u.depth) = false := decide_eq_false hd
          go_wp2_with (go_at_call 32; refine (ih u _ R _ hub (by omega) HI.out).mono ?_; rintro e w2 ⟨rfl, hb2⟩; have hS2 := below_on hS hb2)
          go_roundg (n - i)
          case measure => omega
          case rel => exact ⟨i + 1, by omega, by omega, by go_num, by rw [HX.out]; go_num, hS2⟩
      · obtain rfl : i = n := by omega
        have htk : t.ks.take i = t.ks := by rw [← HN.out, List.take_length]
        rw [htk]
        have hdt := T.depth_le t
        rw [T.depth_eq] at hdt
        have hdd : T.depths t.ks ≤ 1048576 := by have := HB.out; omega
        clear htk
        go_wp2_with fail
        go_ret
        exact ⟨by rw [T.depth_eq]; go_num, below_on hb1 hS⟩
end Go.Proofs.YthiadenmljbdaaaGreatDoor
end

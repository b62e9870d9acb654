/-
  nat.Of, nat.Cmp: contracts.
-/
import Derived.Test.YtiidghfkdjefgaaDoorBare
import Derived.Deep.QuietTactic
import Derived.BigQuiet
namespace Go.Proofs.YtiidghfkdjefgaaDoor
open Go.RowKit

set_option maxHeartbeats 400000 in
theorem of_any (w : World) (n : Nat) (hn : n < 18446744073709551616) :
    Calls Tryd.prog 71 #[.int .u64 n] w fun e w' => ∃ g n' c', e = .returned (.slice (some ⟨g, 0, none⟩) n' c') ∧ Own w' w.heap.size g n' c' (N.ofN n) ∧ Below w.heap.size w w' := by
  go_enter Tryd.func71, Tryd.ntmps71
  have hb : Below w.heap.size w (w.alloc (.cells #[.int .u32 ((n : Int) % 4294967296), .int .u32 ((n : Int) / 4294967296)] 65)) := (Below.refl _ _).alloc (Nat.le_refl _) _
  have hs : Sl (w.alloc (.cells #[.int .u32 ((n : Int) % 4294967296), .int .u32 ((n : Int) / 4294967296)] 65)) (some ⟨w.heap.size, 0, none⟩) 2 2 [n % 4294967296, n / 4294967296] :=
    Sl.lit w [n % 4294967296, n / 4294967296] (N.Lim.cons (by omega) (N.Lim.cons (by omega) N.Lim.nil))
  go_wp2_with (go_at_call 81; refine (own_any _ _ _ _ _ hs (by omega)).mono ?_; rintro e w' ⟨g, n', c', rfl, ho, hb'⟩)
  go_ret
  have e : N.nv [n % 4294967296, n / 4294967296] = n := by simp only [N.nv_cons, N.nv_nil]; omega
  rw [e] at ho
  exact ⟨g, n', c', rfl, ho.mono (by simp), hb.trans (hb'.mono (by simp))⟩

theorem below_drewN {B : Nat} {a w : World} (h : Below B a w) (n : Nat) : Below B a (w.drewN n) := ⟨h.os, h.tape, h.output, h.size, h.block⟩

set_option maxHeartbeats 400000 in
theorem cmp_any (w : World) (A : Option Addr) (n c : Nat) (a : List Nat) (B : Option Addr) (m d : Nat) (b : List Nat) (ha : Sl w A n c a) (hb : Sl w B m d b) (hn : n ≤ 9223372036854775807) (hm : m ≤ 9223372036854775807) :
    Calls Tryd.prog 64 #[.slice A n c, .slice B m d] w fun e w' => e = .returned (.int .i64 (N.cmpN (N.nv a) (N.nv b))) ∧ Below w.heap.size w w' := by
  have ha1 := ha.bare
  have hb1 := hb.bare
  have hla := N.nv_len_le ha.lim
  have hlb := N.nv_len_le hb.lim
  rw [ha.len] at hla
  rw [hb.len] at hlb
  have hA := N.bare_ofN (N.nv a)
  have hB := N.bare_ofN (N.nv b)
  have hva := N.nv_ofN (N.nv a)
  have hvb := N.nv_ofN (N.nv b)
  go_enter Tryd.func64, Tryd.ntmps64
  have HVA := Lib.hid hva
  have HVB := Lib.hid hvb
  clear hva hvb
  go_wp2_with fail
  refine (bare_any _ A n c a ha hn).mono ?_
  rintro e w' ⟨rfl, rfl⟩
  go_wp2_with fail
  refine (bare_any _ B m d b hb hm).mono ?_
  rintro e w' ⟨rfl, rfl⟩
  clear ha hb
  generalize N.ofN (N.nv a) = a' at *
  generalize N.ofN (N.nv b) = b' at *
  rcases Nat.lt_trichotomy a'.length b'.length with hl | hl | hl
  · have h1 : ((a'.length : Int) != (b'.length : Int)) = true := by rw [bne_iff_ne]; omega
    have h2 : decide (a'.length < b'.length) = true := by simpa using hl
    go_wp2_with fail
    go_ret
    exact ⟨ret_i (by rw [← HVA.out, ← HVB.out, N.cmpN_lt (N.bare_len_lt ha1.lim hB hl)]), Below.refl _ _⟩
  · generalize hp : a'.length = p at *
    subst hl
    have HP := Lib.hid hp
    clear hp
    go_wp2_with fail
    go_loopw [5] (fun v wr => Below w.heap.size w wr ∧ ((v = .int .i64 (-1) ∧ ∀ i, i < b'.length → N.dg a' i = N.dg b' i) ∨ ∃ j : Nat, j < b'.length ∧ v = .int .i64 j ∧ ∀ i, j < i → i < b'.length → N.dg a' i = N.dg b' i)) (fun v _ => (intOf v + 1).toNat)
    case atStart =>
      refine ⟨Below.refl _ _, ?_⟩
      by_cases h0 : b'.length = 0
      · exact .inl ⟨by rw [h0]; rfl, fun i hi => by omega⟩
      · exact .inr ⟨b'.length - 1, by omega, by go_num, fun i h1 h2 => by omega⟩
    case round =>
      obtain ⟨hbl, hrel⟩ := hrel
      rcases hrel with ⟨rfl, he⟩ | ⟨j, hj, rfl, he⟩
      · have HE := Lib.hid he
        clear he
        go_wp2_with fail
        go_ret
        exact ⟨ret_i (by rw [← HVA.out, ← HVB.out, N.ext_dg (HP.out.trans rfl) (fun k hk => HE.out k (by rw [HP.out] at hk; exact hk)), N.cmpN_eq]), hbl⟩
      · have HE := Lib.hid he
        clear he
        obtain ⟨ba, oa, rfl, hca⟩ := (ha1.below hbl).cells (by omega)
        obtain ⟨bb, ob, rfl, hcb⟩ := (hb1.below hbl).cells (by omega)
        have h1 := hca j (by omega)
        have h2 := hcb j hj
        clear hca hcb
        have h0 : (0 : Int) ≤ j := by omega
        rcases Nat.lt_trichotomy (N.dg a' j) (N.dg b' j) with hd | hd | hd
        · have hlt := N.dg_hi_lt (a := a') (b := b') HP.out ha1.lim (i := j) (by rw [HP.out]; exact hj) (fun k h3 h4 => HE.out k h3 (by rw [HP.out] at h4; exact h4)) hd
          have t1 : decide (N.dg a' j < N.dg b' j) = true := by simpa using hd
          go_wp2_with fail
          go_quiet (fail)
          go_wp2_with fail
          go_ret
          exact ⟨ret_i (by rw [← HVA.out, ← HVB.out, N.cmpN_lt hlt]), below_drewN hbl _⟩
        · have t1 : decide (N.dg a' j < N.dg b' j) = false := by simp; omega
          have t2 : decide (N.dg b' j < N.dg a' j) = false := by simp; omega
          have HD := Lib.hid hd
          clear hd
          go_wp2_with fail
          go_quiet (fail)
          go_wp2_with fail
          go_quiet (fail)
          go_wp2_with fail
          go_roundw
          case rel =>
            refine ⟨below_drewN hbl _, ?_⟩
            have he : ∀ i, j ≤ i → i < b'.length → N.dg a' i = N.dg b' i := fun i h3 h4 => by
              rcases Nat.lt_or_ge j i with h5 | h5
              · exact HE.out i h5 h4
              · obtain rfl : i = j := by omega
                exact HD.out
            by_cases hj0 : j = 0
            · subst hj0
              exact .inl ⟨rfl, fun i hi => he i (Nat.zero_le _) hi⟩
            · exact .inr ⟨j - 1, by omega, by go_num, fun i h3 h4 => he i (by omega) h4⟩
          case measure => simp [intOf]
        · have hlt := N.dg_hi_lt (a := b') (b := a') HP.out.symm hb1.lim (i := j) hj (fun k h3 h4 => (HE.out k h3 h4).symm) hd
          have t1 : decide (N.dg a' j < N.dg b' j) = false := by simp; omega
          have t2 : decide (N.dg b' j < N.dg a' j) = true := by simpa using hd
          go_wp2_with fail
          go_quiet (fail)
          go_wp2_with fail
          go_quiet (fail)
          go_wp2_with fail
          go_ret
          exact ⟨ret_i (by rw [← HVA.out, ← HVB.out, N.cmpN_gt hlt]), below_drewN (below_drewN hbl _) _⟩
  · have h1 : ((a'.length : Int) != (b'.length : Int)) = true := by rw [bne_iff_ne]; omega
    have h2 : decide (a'.length < b'.length) = false := by simp; omega
    go_wp2_with fail
    go_ret
    exact ⟨ret_i (by rw [← HVA.out, ← HVB.out, N.cmpN_gt (N.bare_len_lt hb1.lim hA hl)]), Below.refl _ _⟩
end Go.Proofs.YtiidghfkdjefgaaDoor

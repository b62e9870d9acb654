/-
  riddleref01: Trim, at, Cmp, Add, Sub, Times: contracts.
-/
import Derived.Test.YtiidghfkdjefgaaDoorRMem
namespace Go.Proofs.YtiidghfkdjefgaaDoor
open Go.RowKit

theorem info_size32 : (Tryd.prog.info? 65).map (·.size) = some 1 := by kernel_rfl

set_option maxRecDepth 100000 in
set_option maxHeartbeats 400000 in
theorem rtrim_any (w : World) (A : Option Addr) (n c : Nat) (l : List Nat) (h : Sl w A n c l) (hm : n ≤ 35184372088832) :
    Calls Tryd.prog 55 #[.slice A n c] w fun e w' => ∃ g n' c', e = .returned (.slice (some ⟨g, 0, none⟩) n' c') ∧ Own w' w.heap.size g n' c' (N.ofN (N.nv l)) ∧ Below w.heap.size w w' := by
  obtain ⟨i0, hi, hz0, hz1, hz2⟩ := info_parts info_u32
  have hcap := h.cap
  have hlen := h.len
  have HLEN := Lib.hid hlen
  clear hlen
  go_enter Tryd.func55, Tryd.ntmps55
  go_wp2_with fail
  go_loop [3] (fun v => ∃ k : Nat, k ≤ n ∧ v = .int .i64 k ∧ ∀ j, k ≤ j → j < n → N.dg l j = 0) (fun v => (intOf v).toNat)
  case atStart => exact ⟨n, Nat.le_refl _, rfl, fun j h1 h2 => by omega⟩
  case round =>
    obtain ⟨k, hk, rfl, hz⟩ := hrel
    have HZ := Lib.hid hz
    clear hz
    by_cases hk0 : k = 0
    · subst hk0
      have e : l.take 0 = N.ofN (N.nv l) := N.take_bare h.lim (by omega) (fun j h1 h2 => HZ.out j h1 (by rw [HLEN.out] at h2; exact h2)) (.inl rfl)
      have E := Lib.hid e
      clear e
      go_wp2_with (first
        | (at_make; refine wpList_make_lim _ rfl (.tmp 19) (.tmp 19) 22 rfl i0 Tryd.underlying22 hi hz0 hz1 hz2 .i64 .i64 _ _ 0 rfl rfl (by omega) (by omega) (by omega) ?_; intro w1 ho1 hb1; have hs1 := h.below hb1)
        | (with_reducible refine at_copy ?_; refine wpList_copy_lim rfl (.tmp 21) (.tmp 22) _ _ rfl Tryd.underlying22 info_size32 _ _ _ _ _ _ rfl rfl _ _ _ _ 0 _ ho1 l hs1 0 (by simp) (fun _ => rfl) (by omega) (N.ofN (N.nv l)) (by rw [← E.out]; exact splice_all _ _ (by simp)) w.heap.size w hb1 (Nat.le_refl _) ?_; intro w2 ho2 hb2))
      go_ret
      exact ⟨_, _, _, rfl, ho2, hb2⟩
    · obtain ⟨b, o, rfl, hc⟩ := h.cells (by omega)
      have hck := hc (k - 1) (by omega)
      clear hc
      by_cases hd : N.dg l (k - 1) = 0
      · have ht : ((N.dg l (k - 1) : Int) == 0) = true := by simpa using hd
        have HD := Lib.hid hd
        clear hd
        go_wp2_with fail
        go_round
        case rel =>
          refine ⟨k - 1, by omega, by go_num, fun j h1 h2 => ?_⟩
          rcases Nat.lt_or_ge j k with h3 | h3
          · obtain rfl : j = k - 1 := by omega
            exact HD.out
          · exact HZ.out j h3 h2
        case measure => simp [intOf]; omega
      · have ht : ((N.dg l (k - 1) : Int) == 0) = false := by simpa using hd
        have e : l.take k = N.ofN (N.nv l) := N.take_bare h.lim (by rw [HLEN.out]; exact hk) (fun j h1 h2 => HZ.out j h1 (by rw [HLEN.out] at h2; exact h2)) (.inr hd)
        have E := Lib.hid e
        clear e hd
        go_wp2_with (first
          | (at_make; refine wpList_make_lim _ rfl (.tmp 19) (.tmp 19) 22 rfl i0 Tryd.underlying22 hi hz0 hz1 hz2 .i64 .i64 _ _ k rfl rfl (by omega) (by omega) (by omega) ?_; intro w1 ho1 hb1; have hs1 := h.below hb1)
          | (with_reducible refine at_copy ?_; refine wpList_copy_lim rfl (.tmp 21) (.tmp 22) _ _ rfl Tryd.underlying22 info_size32 _ _ _ _ _ _ rfl rfl _ _ _ _ 0 _ ho1 l hs1 k (Nat.min_eq_right hk).symm (fun _ => rfl) (by omega) (N.ofN (N.nv l)) (by rw [← E.out]; exact splice_all _ _ (by rw [List.length_take, HLEN.out]; omega)) w.heap.size w hb1 (Nat.le_refl _) ?_; intro w2 ho2 hb2))
        go_ret
        exact ⟨_, _, _, rfl, ho2, hb2⟩

theorem at_any (w : World) (A : Option Addr) (n c : Nat) (l : List Nat) (h : Sl w A n c l) (hm : n ≤ 9223372036854775807) (i : Nat) (hi : i ≤ 9223372036854775807) :
    Calls Tryd.prog 95 #[.slice A n c, .int .i64 i] w fun e w' => e = .returned (.int .u64 (N.dg l i : Nat)) ∧ w = w' := by
  have hx := N.dg_lt h.lim i
  go_enter Tryd.func95, Tryd.ntmps95
  by_cases hin : i < n
  · obtain ⟨b, o, rfl, hc⟩ := h.cells (by omega)
    have hci := hc i hin
    clear hc
    go_wp2_with fail
    go_ret
    exact ⟨rfl, rfl⟩
  · have e : N.dg l i = 0 := N.dg_ge _ _ (by rw [h.len]; omega)
    rw [e]
    clear e hx
    go_wp2_with fail
    go_ret
    exact ⟨rfl, rfl⟩

set_option maxHeartbeats 1600000 in
theorem rcmp_any (w : World) (A : Option Addr) (n c : Nat) (a : List Nat) (B : Option Addr) (m d : Nat) (b : List Nat) (ha : Sl w A n c a) (hb : Sl w B m d b) (hn : n ≤ 35184372088832) (hm : m ≤ 35184372088832) :
    Calls Tryd.prog 67 #[.slice A n c, .slice B m d] w fun e w' => e = .returned (.int .i64 (N.cmpN (N.nv a) (N.nv b))) ∧ w = w' := by
  have hla := ha.len
  have hlb := hb.len
  have HLA := Lib.hid hla
  have HLB := Lib.hid hlb
  clear hla hlb
  go_enter Tryd.func67, Tryd.ntmps67
  go_wp2_with fail
  go_loop [5, 6] (fun v5 v6 => ∃ (k : Nat) (s : Int), (k ≤ n ∨ k ≤ m) ∧ v6 = .int .i64 k ∧ v5 = .int .i64 s ∧ s = N.cmpN (N.nv (a.take k)) (N.nv (b.take k))) (fun _ v6 => n + m - (intOf v6).toNat)
  case atStart => exact ⟨0, 0, by omega, rfl, rfl, rfl⟩
  case round =>
    obtain ⟨k, s, hk, rfl, rfl, hs⟩ := hrel
    have HS := Lib.hid hs
    clear hs
    have hstep := N.cmp_take ha.lim hb.lim k
    have HST := Lib.hid hstep
    clear hstep
    rcases (show (k < n ∨ (n ≤ k ∧ k < m)) ∨ (n ≤ k ∧ m ≤ k) by omega) with h1 | ⟨h1, h2⟩
    · obtain ⟨p, hp⟩ : ∃ p, N.dg a k = p := ⟨_, rfl⟩
      obtain ⟨q, hq⟩ : ∃ q, N.dg b k = q := ⟨_, rfl⟩
      have HP := Lib.hid hp
      have HQ := Lib.hid hq
      clear hp hq
      have hst := HST.out
      rw [HP.out, HQ.out, ← HS.out] at hst
      have key : ∀ r : Int, r = N.cmpN (N.nv (a.take (k + 1))) (N.nv (b.take (k + 1))) → ∃ (k' : Nat) (s' : Int), (k' ≤ n ∨ k' ≤ m) ∧ Value.int .i64 ((k : Int) + 1) = .int .i64 k' ∧ Value.int .i64 r = .int .i64 s' ∧ s' = N.cmpN (N.nv (a.take k')) (N.nv (b.take k')) :=
        fun r hr => ⟨k + 1, r, by omega, by go_num, rfl, hr⟩
      clear HST HS
      rcases Nat.lt_trichotomy p q with hpq | hpq | hpq
      · rw [if_pos hpq] at hst
        have KEY := Lib.hid (key _ hst.symm)
        clear hst key
        have t1 : decide ((p : Int) < (q : Int)) = true := decide_eq_true (by omega)
        have t2 : decide ((p : Int) > (q : Int)) = false := decide_eq_false (by omega)
        have t3 : decide ((q : Int) < (p : Int)) = false := decide_eq_false (by omega)
        rcases h1 with h1 | ⟨h1, h2⟩
        all_goals
          go_wp2_with fail
          refine (at_any _ A n c a ha (by omega) k (by omega)).mono ?_
          rintro e w' ⟨rfl, rfl⟩
          rw [HP.out]
          go_wp2_with fail
          refine (at_any _ B m d b hb (by omega) k (by omega)).mono ?_
          rintro e w' ⟨rfl, rfl⟩
          rw [HQ.out]
          go_wp2_with fail
          refine (at_any _ A n c a ha (by omega) k (by omega)).mono ?_
          rintro e w' ⟨rfl, rfl⟩
          rw [HP.out]
          go_wp2_with fail
          refine (at_any _ B m d b hb (by omega) k (by omega)).mono ?_
          rintro e w' ⟨rfl, rfl⟩
          rw [HQ.out]
          go_wp2_with fail
          go_round
          case rel => exact KEY.out
          case measure => simp [intOf]; omega
      · subst hpq
        rw [if_neg (by omega), if_neg (by omega)] at hst
        have KEY := Lib.hid (key _ hst.symm)
        clear hst key
        have t1 : decide ((p : Int) < (p : Int)) = false := decide_eq_false (by omega)
        have t2 : decide ((p : Int) > (p : Int)) = false := decide_eq_false (by omega)
        rcases h1 with h1 | ⟨h1, h2⟩
        all_goals
          go_wp2_with fail
          refine (at_any _ A n c a ha (by omega) k (by omega)).mono ?_
          rintro e w' ⟨rfl, rfl⟩
          rw [HP.out]
          go_wp2_with fail
          refine (at_any _ B m d b hb (by omega) k (by omega)).mono ?_
          rintro e w' ⟨rfl, rfl⟩
          rw [HQ.out]
          go_wp2_with fail
          refine (at_any _ A n c a ha (by omega) k (by omega)).mono ?_
          rintro e w' ⟨rfl, rfl⟩
          rw [HP.out]
          go_wp2_with fail
          refine (at_any _ B m d b hb (by omega) k (by omega)).mono ?_
          rintro e w' ⟨rfl, rfl⟩
          rw [HQ.out]
          go_wp2_with fail
          go_round
          case rel => exact KEY.out
          case measure => simp [intOf]; omega
      · rw [if_neg (by omega), if_pos hpq] at hst
        have KEY := Lib.hid (key _ hst.symm)
        clear hst key
        have t1 : decide ((p : Int) < (q : Int)) = false := decide_eq_false (by omega)
        have t2 : decide ((p : Int) > (q : Int)) = true := decide_eq_true (by omega)
        have t3 : decide ((q : Int) < (p : Int)) = true := decide_eq_true (by omega)
        rcases h1 with h1 | ⟨h1, h2⟩
        all_goals
          go_wp2_with fail
          refine (at_any _ A n c a ha (by omega) k (by omega)).mono ?_
          rintro e w' ⟨rfl, rfl⟩
          rw [HP.out]
          go_wp2_with fail
          refine (at_any _ B m d b hb (by omega) k (by omega)).mono ?_
          rintro e w' ⟨rfl, rfl⟩
          rw [HQ.out]
          go_wp2_with fail
          refine (at_any _ A n c a ha (by omega) k (by omega)).mono ?_
          rintro e w' ⟨rfl, rfl⟩
          rw [HP.out]
          go_wp2_with fail
          refine (at_any _ B m d b hb (by omega) k (by omega)).mono ?_
          rintro e w' ⟨rfl, rfl⟩
          rw [HQ.out]
          go_wp2_with fail
          go_round
          case rel => exact KEY.out
          case measure => simp [intOf]; omega
    · go_wp2_with fail
      go_ret
      have e := HS.out
      rw [N.take_all (by rw [HLA.out]; exact h1), N.take_all (by rw [HLB.out]; exact h2)] at e
      rw [e]
      exact ⟨rfl, rfl⟩
end Go.Proofs.YtiidghfkdjefgaaDoor

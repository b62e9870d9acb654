/-
  riddleref01: Add, Sub, Times: contracts.
-/
import Derived.Test.YtiidghfkdjefgaaDoorRSum
namespace Go.Proofs.YtiidghfkdjefgaaDoor
open Go.RowKit

set_option maxRecDepth 100000 in
set_option maxHeartbeats 1600000 in
theorem radd_any (w : World) (A : Option Addr) (n c : Nat) (a : List Nat) (B : Option Addr) (m d : Nat) (b : List Nat) (ha : Sl w A n c a) (hb : Sl w B m d b) (hn : n ≤ 17592186044416) (hm : m ≤ 17592186044416) :
    Calls Tryd.prog 68 #[.slice A n c, .slice B m d] w fun e w' => ∃ g n' c', e = .returned (.slice (some ⟨g, 0, none⟩) n' c') ∧ Own w' w.heap.size g n' c' (N.ofN (N.nv a + N.nv b)) ∧ Below w.heap.size w w' := by
  obtain ⟨i0, hi, hz0, hz1, hz2⟩ := info_parts info_u32
  have hla := ha.len
  have hlb := hb.len
  have HLA := Lib.hid hla
  have HLB := Lib.hid hlb
  clear hla hlb
  go_enter Tryd.func68, Tryd.ntmps68
  go_wp2_with fail
  go_loopw [5, 6, 7] (fun v5 v6 v7 wr => ∃ (k o : Nat) (out : List Nat), (k ≤ n ∨ k ≤ m) ∧ v7 = .int .i64 k ∧ v6 = .int .u64 o ∧ Out wr w.heap.size v5 out ∧ out.length = k ∧ o ≤ 1 ∧ N.nv out + 4294967296 ^ k * o = N.nv (a.take k) + N.nv (b.take k) ∧ Below w.heap.size w wr) (fun _ _ v7 _ => n + m - (intOf v7).toNat)
  case atStart => exact ⟨0, 0, [], by omega, rfl, rfl, Out.nil _ _, rfl, by omega, rfl, Below.refl _ _⟩
  case round =>
    obtain ⟨k, o, out, hk, rfl, rfl, hown, hol, ho1, heq, hbw⟩ := hrel
    have HEQ := Lib.hid heq
    have HOL := Lib.hid hol
    clear heq hol
    have ha' := ha.below hbw
    have hb' := hb.below hbw
    have hz := hbw.size
    rcases (show (k < n ∨ (n ≤ k ∧ k < m)) ∨ (n ≤ k ∧ m ≤ k) by omega) with h1 | ⟨h1, h2⟩
    · have hstep := N.add_step HOL.out HEQ.out
      have hp := N.dg_lt ha.lim k
      have hq := N.dg_lt hb.lim k
      obtain ⟨p, hpe⟩ : ∃ p, N.dg a k = p := ⟨_, rfl⟩
      obtain ⟨q, hqe⟩ : ∃ q, N.dg b k = q := ⟨_, rfl⟩
      rw [hpe, hqe] at hstep
      rw [hpe] at hp
      rw [hqe] at hq
      have HST := Lib.hid hstep
      have HP := Lib.hid hpe
      have HQ := Lib.hid hqe
      clear hstep hpe hqe
      rcases h1 with h1 | ⟨h1, h2⟩
      all_goals
        go_wp2_with fail
        refine (at_any _ A n c a ha' (by omega) k (by omega)).mono ?_
        rintro e w' ⟨rfl, rfl⟩
        rw [HP.out]
        go_wp2_with fail
        refine (at_any _ B m d b hb' (by omega) k (by omega)).mono ?_
        rintro e w' ⟨rfl, rfl⟩
        rw [HQ.out]
        go_wp2_with (at_builtin; refine wpList_append_out _ rfl (.tmp 30) (.tmp 34) 22 rfl w.heap.size i0 Tryd.underlying22 hi hz0 hz1 hz2 _ out rfl (out_alloc hown _) _ 1 ((p + q + o) % 4294967296) rfl (Nat.mod_lt _ (by omega)) (cell1 rfl (by omega)) (by rw [HOL.out]; omega) (by simp; omega) ?_; intro v2 w2 ho2 hg2)
        have hb2 := out_below hbw hown hz hg2
        go_roundw
        case rel => exact ⟨k + 1, (p + q + o) / 4294967296, _, by omega, by go_num, by go_num, ho2, by rw [List.length_append, HOL.out]; rfl, by omega, HST.out, hb2⟩
        case measure => simp [intOf]; omega
    · go_wp2_with (first
        | (go_at_call 55; obtain ⟨A2, c2, rfl, hs2⟩ := ho2.sl; refine (rtrim_any _ A2 _ c2 _ hs2 (by rw [List.length_append, HOL.out]; simp; omega)).mono ?_; rintro e w3 ⟨g3, n3, c3, rfl, ho3, hb3⟩)
        | (at_builtin; refine wpList_append_out _ rfl (.tmp 38) (.tmp 41) 22 rfl w.heap.size i0 Tryd.underlying22 hi hz0 hz1 hz2 _ out rfl (out_alloc hown _) _ 1 o rfl (by omega) (cell1 rfl (by omega)) (by rw [HOL.out]; omega) (by simp; omega) ?_; intro v2 w2 ho2 hg2))
      go_ret
      have hb2 := out_below hbw hown hz hg2
      have e := HEQ.out
      rw [N.take_all (by rw [HLA.out]; exact h1), N.take_all (by rw [HLB.out]; exact h2)] at e
      rw [N.nv_snoc, HOL.out, e] at ho3
      exact ⟨_, _, _, rfl, ho3.mono hb2.size, hb2.trans (hb3.mono hb2.size)⟩

set_option maxRecDepth 100000 in
set_option maxHeartbeats 1600000 in
theorem rsub_any (w : World) (A : Option Addr) (n c : Nat) (a : List Nat) (B : Option Addr) (m d : Nat) (b : List Nat) (ha : Sl w A n c a) (hb : Sl w B m d b) (hn : n ≤ 17592186044416) (hm : m ≤ 17592186044416) (hle : N.nv b ≤ N.nv a) :
    Calls Tryd.prog 69 #[.slice A n c, .slice B m d] w fun e w' => ∃ g n' c', e = .returned (.slice (some ⟨g, 0, none⟩) n' c') ∧ Own w' w.heap.size g n' c' (N.ofN (N.nv a - N.nv b)) ∧ Below w.heap.size w w' := by
  obtain ⟨i0, hi, hz0, hz1, hz2⟩ := info_parts info_u32
  have hla := ha.len
  have HLA := Lib.hid hla
  have HLE := Lib.hid hle
  clear hla hle
  go_enter Tryd.func69, Tryd.ntmps69
  go_wp2_with fail
  go_loopw [5, 6, 7] (fun v5 v6 v7 wr => ∃ (k o : Nat) (out : List Nat), k ≤ n ∧ v7 = .int .i64 k ∧ v6 = .int .u64 o ∧ Out wr w.heap.size v5 out ∧ out.length = k ∧ o ≤ 1 ∧ N.nv out + N.nv (b.take k) = N.nv (a.take k) + 4294967296 ^ k * o ∧ Below w.heap.size w wr) (fun _ _ v7 _ => n - (intOf v7).toNat)
  case atStart => exact ⟨0, 0, [], by omega, rfl, rfl, Out.nil _ _, rfl, by omega, rfl, Below.refl _ _⟩
  case round =>
    obtain ⟨k, o, out, hk, rfl, rfl, hown, hol, ho1, heq, hbw⟩ := hrel
    have HEQ := Lib.hid heq
    have HOL := Lib.hid hol
    clear heq hol
    have ha' := ha.below hbw
    have hb' := hb.below hbw
    have hz := hbw.size
    by_cases h1 : k < n
    · have hp := N.dg_lt ha.lim k
      have hq := N.dg_lt hb.lim k
      have hstep := N.sub_step HOL.out hp hq ho1 HEQ.out
      obtain ⟨p, hpe⟩ : ∃ p, N.dg a k = p := ⟨_, rfl⟩
      obtain ⟨q, hqe⟩ : ∃ q, N.dg b k = q := ⟨_, rfl⟩
      rw [hpe, hqe] at hstep
      rw [hpe] at hp
      rw [hqe] at hq
      have HST := Lib.hid hstep
      have HP := Lib.hid hpe
      have HQ := Lib.hid hqe
      clear hstep hpe hqe
      go_wp2_with fail
      refine (at_any _ A n c a ha' (by omega) k (by omega)).mono ?_
      rintro e w' ⟨rfl, rfl⟩
      rw [HP.out]
      go_wp2_with fail
      refine (at_any _ B m d b hb' (by omega) k (by omega)).mono ?_
      rintro e w' ⟨rfl, rfl⟩
      rw [HQ.out]
      go_wp2_with (at_builtin; refine wpList_append_out _ rfl (.tmp 25) (.tmp 29) 22 rfl w.heap.size i0 Tryd.underlying22 hi hz0 hz1 hz2 _ out rfl (out_alloc hown _) _ 1 ((p + 4294967296 - q - o) % 4294967296) rfl (Nat.mod_lt _ (by omega)) (cell1 rfl (by omega)) (by rw [HOL.out]; omega) (by simp; omega) ?_; intro v2 w2 ho2 hg2)
      have hb2 := out_below hbw hown hz hg2
      go_roundw
      case rel => exact ⟨k + 1, 1 - (p + 4294967296 - q - o) / 4294967296, _, by omega, by go_num, by go_num, ho2, by rw [List.length_append, HOL.out]; rfl, by omega, HST.out, hb2⟩
      case measure => simp [intOf]; omega
    · obtain rfl : k = n := by omega
      obtain ⟨A2, c2, rfl, hs2⟩ := hown.sl
      go_wp2_with (go_at_call 55; refine (rtrim_any _ A2 _ c2 _ hs2 (by rw [HOL.out]; omega)).mono ?_; rintro e w3 ⟨g3, n3, c3, rfl, ho3, hb3⟩)
      go_ret
      have e := N.sub_end (by rw [HOL.out, HLA.out]) hown.lim ha.lim HLE.out (by have := HEQ.out; rw [← HLA.out] at this; exact this)
      rw [e] at ho3
      exact ⟨_, _, _, rfl, ho3.mono hbw.size, hbw.trans (hb3.mono hbw.size)⟩

set_option maxRecDepth 100000 in
set_option maxHeartbeats 1600000 in
theorem rtimes_any (w : World) (A : Option Addr) (n c : Nat) (a : List Nat) (f r : Nat) (zf zr : Int) (hzf : zf = (f : Nat)) (hzr : zr = (r : Nat)) (ha : Sl w A n c a) (hn : n ≤ 17592186044416) (hf : f < 4294967296) (hr : r < 4294967296) :
    Calls Tryd.prog 85 #[.slice A n c, .int .u32 zf, .int .u32 zr] w fun e w' => ∃ g n' c', e = .returned (.slice (some ⟨g, 0, none⟩) n' c') ∧ Own w' w.heap.size g n' c' (N.ofN (N.nv a * f + r)) ∧ Below w.heap.size w w' := by
  subst hzf
  subst hzr
  obtain ⟨i0, hi, hz0, hz1, hz2⟩ := info_parts info_u32
  have hla := ha.len
  have HLA := Lib.hid hla
  clear hla
  go_enter Tryd.func85, Tryd.ntmps85
  go_wp2_with fail
  go_loopw [7, 8, 9] (fun v7 v8 v9 wr => ∃ (k o : Nat) (out : List Nat), k ≤ n ∧ v9 = .int .i64 k ∧ v8 = .int .u64 o ∧ Out wr w.heap.size v7 out ∧ out.length = k ∧ o < 4294967296 ∧ N.nv out + 4294967296 ^ k * o = N.nv (a.take k) * f + r ∧ Below w.heap.size w wr) (fun _ _ v9 _ => n - (intOf v9).toNat)
  case atStart => exact ⟨0, r, [], by omega, rfl, rfl, Out.nil _ _, rfl, hr, by simp [N.nv], Below.refl _ _⟩
  case round =>
    obtain ⟨k, o, out, hk, rfl, rfl, hown, hol, ho1, heq, hbw⟩ := hrel
    have HEQ := Lib.hid heq
    have HOL := Lib.hid hol
    clear heq hol
    have ha' := ha.below hbw
    have hz := hbw.size
    by_cases h1 : k < n
    · have hp := N.dg_lt ha.lim k
      obtain ⟨hx1, hx2⟩ := N.over_lt hp hf ho1
      have hstep := N.times_step HOL.out HEQ.out
      have HST := Lib.hid hstep
      clear hstep
      obtain ⟨bx, ox, rfl, hcx⟩ := ha'.cells (by omega)
      have hc1 := hcx k h1
      clear hcx
      obtain ⟨p, hpe⟩ : ∃ p, N.dg a k = p := ⟨_, rfl⟩
      rw [hpe] at hc1 hp hx1 hx2
      have HP := Lib.hid hpe
      clear hpe
      have hxy1 : (p : Int) * (f : Int) ≤ 18446744065119617025 := mul_cast_le (N.mul_lt hp hf)
      have hxy0 : 0 ≤ (p : Int) * (f : Int) := mul_cast_nonneg _ _
      have he : (p : Int) * (f : Int) = (p * f : Nat) := by rw [Int.natCast_mul]
      have HE := Lib.hid he
      clear he
      go_wp2_with (at_builtin; refine wpList_append_out _ rfl (.tmp 29) (.tmp 33) 22 rfl w.heap.size i0 Tryd.underlying22 hi hz0 hz1 hz2 _ out rfl (out_alloc hown _) _ 1 ((p * f + o) % 4294967296) rfl (Nat.mod_lt _ (by omega)) (cell1 rfl (by rw [HE.out]; omega)) (by rw [HOL.out]; omega) (by simp; omega) ?_; intro v2 w2 ho2 hg2)
      have hb2 := out_below hbw hown hz hg2
      go_roundw
      case rel => exact ⟨k + 1, (p * f + o) / 4294967296, _, by omega, by go_num, by rw [HE.out]; go_num, ho2, by rw [List.length_append, HOL.out]; rfl, hx2, by have := HST.out; rw [HP.out] at this; exact this, hb2⟩
      case measure => simp [intOf]; omega
    · obtain rfl : k = n := by omega
      go_wp2_with (first
        | (go_at_call 55; obtain ⟨A2, c2, rfl, hs2⟩ := ho2.sl; refine (rtrim_any _ A2 _ c2 _ hs2 (by rw [List.length_append, HOL.out]; simp; omega)).mono ?_; rintro e w3 ⟨g3, n3, c3, rfl, ho3, hb3⟩)
        | (at_builtin; refine wpList_append_out _ rfl (.tmp 37) (.tmp 40) 22 rfl w.heap.size i0 Tryd.underlying22 hi hz0 hz1 hz2 _ out rfl (out_alloc hown _) _ 1 o rfl (by omega) (cell1 rfl (by omega)) (by rw [HOL.out]; omega) (by simp; omega) ?_; intro v2 w2 ho2 hg2))
      go_ret
      have hb2 := out_below hbw hown hz hg2
      have e := HEQ.out
      rw [N.take_all (by rw [HLA.out]; exact Nat.le_refl _)] at e
      rw [N.nv_snoc, HOL.out, e] at ho3
      exact ⟨_, _, _, rfl, ho3.mono hb2.size, hb2.trans (hb3.mono hb2.size)⟩
end Go.Proofs.YtiidghfkdjefgaaDoor

/-
  s: the parts YZText WNum WMul WNeg of the proof.
-/
import Derived.Test.YthiadenmljbdaaaGreatDoorB17s
import Derived.Test.YthiadenmljbdaaaGreatDoorB7s
import Derived.Laws.Concat
import Derived.Deep.RegionHeld3
import Derived.Deep.QuietTactic
import Derived.BigQuiet
section
namespace Go.Proofs.YthiadenmljbdaaaGreatDoor
open Go.RowKit
def icmp (x y : Int) : Int := if x < y then -1 else if x = y then 0 else 1
theorem icmp_lt {x y : Int} (h : x < y) : icmp x y = -1 := by simp [icmp, h]
theorem icmp_eq (x : Int) : icmp x x = 0 := by simp [icmp]
theorem icmp_gt {x y : Int} (h : y < x) : icmp x y = 1 := by
  have h1 : ¬ x < y := by omega
  have h2 : ¬ x = y := by omega
  simp [icmp, h1, h2]
theorem icmp_cases (x y : Int) : (x < y ∧ icmp x y = -1) ∨ (x = y ∧ icmp x y = 0) ∨ (y < x ∧ icmp x y = 1) := by
  rcases Int.lt_trichotomy x y with h | h | h
  · exact .inl ⟨h, icmp_lt h⟩
  · subst h; exact .inr (.inl ⟨rfl, icmp_eq x⟩)
  · exact .inr (.inr ⟨h, icmp_gt h⟩)
theorem icmp_pos (x y : Nat) : icmp (sgn false x) (sgn false y) = N.cmpN x y := by
  rw [sgn_false, sgn_false]
  rcases N.cmpN_cases x y with ⟨h, e⟩ | ⟨h, e⟩ | ⟨h, e⟩
  · rw [e]; exact icmp_lt (by omega)
  · rw [e]; subst h; exact icmp_eq _
  · rw [e]; exact icmp_gt (by omega)
theorem icmp_neg (x y : Nat) : icmp (sgn true x) (sgn true y) = N.cmpN y x := by
  rw [sgn_true, sgn_true]
  rcases N.cmpN_cases y x with ⟨h, e⟩ | ⟨h, e⟩ | ⟨h, e⟩
  · rw [e]; exact icmp_lt (by omega)
  · rw [e]; subst h; exact icmp_eq _
  · rw [e]; exact icmp_gt (by omega)
def isgn (z : Int) : Int := icmp z 0
theorem isgn_sgn (s : Bool) (x : Nat) : isgn (sgn s x) = if x = 0 then 0 else if s then -1 else 1 := by
  unfold isgn
  by_cases h : x = 0
  · subst h; rw [sgn_zero, if_pos rfl]; exact icmp_eq 0
  · rw [if_neg h]
    cases s
    · rw [sgn_false]; exact icmp_gt (by omega)
    · rw [sgn_true]; exact icmp_lt (by omega)
theorem isgn_cases (z : Int) : (z < 0 ∧ isgn z = -1) ∨ (z = 0 ∧ isgn z = 0) ∨ (0 < z ∧ isgn z = 1) := icmp_cases z 0
theorem N.nv_zero_of {l : List Nat} (h : ∀ j, j < l.length → N.dg l j = 0) : N.nv l = 0 := by
  rw [N.nv_of_zero (n := 0) (l := l) (fun j _ => by
    rcases Nat.lt_or_ge j l.length with h1 | h1
    · exact h j h1
    · exact N.dg_ge l j h1)]
  rfl
theorem sgn_lt {s : Bool} {x : Nat} (h : sgn s x < 0) : s = true := by
  cases s
  · rw [sgn_false] at h; omega
  · rfl
theorem sgn_gt {s : Bool} {x : Nat} (h : 0 < sgn s x) : s = false := by
  cases s
  · rfl
  · rw [sgn_true] at h; omega
set_option maxRecDepth 100000 in
set_option maxHeartbeats 800000 in
theorem sign_i {w : World} {v : Value} {K : Nat} {z : Int} (h : IV w v K z) (hK : K ≤ 9223372036854775807) :
    Calls Tryz.prog 93 #[v] w fun e w' => e = .returned (.int .i64 (isgn z)) ∧ Below w.heap.size w w' := by
  obtain ⟨s, x, ⟨sl, rfl, A, n, c, l, rfl, hp, hs, rfl, hn⟩, rfl⟩ := h
  obtain ⟨G, hG⟩ : ∃ G, G = isgn (sgn s (N.nv l)) := ⟨_, rfl⟩
  rw [← hG]
  have HG := Lib.hid hG
  clear hG
  obtain ⟨W, hW, hp0, hbW⟩ : ∃ W : World, W = w.alloc (.cells #[.bool s, .slice A n c] 25) ∧ Pair W w.heap.size 25 (.bool s) (.slice A n c) ∧ Below w.heap.size w W := ⟨_, rfl, Pair.new _ _ _ _, below_alloc1 _ _⟩
  obtain ⟨_, _, c0, c1⟩ := hp0.facts
  have hsW := hs.below hbW
  have hl := hs.len
  have HL := Lib.hid hl
  have HW := Lib.hid hW
  clear hW hs hl hp0
  go_enter Tryz.func93, Tryz.ntmps93
  go_wp2_with fail
  rw [← HW.out]
  go_loopg [8] n (fun gk v8 wr => ∃ k : Nat, gk + k = n ∧ v8 = .int .i64 (k : Nat) ∧ (∀ j, j < k → N.dg l j = 0) ∧ W = wr)
  case atStart => exact ⟨0, rfl, rfl, fun j hj => by omega, rfl⟩
  case round =>
    obtain ⟨k, hk, rfl, hz, rfl⟩ := hrel
    have HZ := Lib.hid hz
    clear hz
    by_cases hkn : k < n
    · obtain ⟨b, o, rfl, hc⟩ := hsW.cells (by omega)
      have hck := hc k hkn
      have HC := Lib.hid hc
      clear hc
      by_cases hd : N.dg l k = 0
      · have ht : ((N.dg l k : Int) == 0) = true := by simpa using hd
        have HD := Lib.hid hd
        clear hd
        go_wp2_with fail
        go_roundg (gk - 1)
        case measure => omega
        case rel =>
          refine ⟨k + 1, by omega, by go_num, fun j hj => ?_, rfl⟩
          rcases Nat.lt_or_ge j k with h3 | h3
          · exact HZ.out j h3
          · obtain rfl : j = k := by omega
            exact HD.out
      · have ht : ((N.dg l k : Int) == 0) = false := by simpa using hd
        have hx := N.nv_ne_of hd
        have HX := Lib.hid hx
        clear hx hd
        cases s
        all_goals
          go_wp2_with fail
          go_ret
          exact ⟨by rw [HG.out, isgn_sgn, if_neg HX.out]; rfl, hbW⟩
    · obtain rfl : k = n := by omega
      have hx : N.nv l = 0 := N.nv_zero_of (by rw [HL.out]; exact HZ.out)
      have HX := Lib.hid hx
      clear hx
      go_wp2_with fail
      go_ret
      exact ⟨by rw [HG.out, isgn_sgn, if_pos HX.out]; rfl, hbW⟩
set_option maxHeartbeats 400000 in
theorem cmp_any (w : World) (A : Option Addr) (n c : Nat) (a : List Nat) (B : Option Addr) (m d : Nat) (b : List Nat) (ha : Sl w A n c a) (hb : Sl w B m d b) (hn : n ≤ 9223372036854775807) (hm : m ≤ 9223372036854775807) :
    Calls Tryz.prog 94 #[.slice A n c, .slice B m d] w fun e w' => e = .returned (.int .i64 (N.cmpN (N.nv a) (N.nv b))) ∧ Below w.heap.size w w' := by
  have ha1 := ha.bare
  have hb1 := hb.bare
  have hla := N.nv_len_le ha.lim
  have hlb := N.nv_len_le hb.lim
  rw [ha.len] at hla
  rw [hb.len] at hlb
  have hA := N.bare_ofN (N.nv a)
  have hB := N.bare_ofN (N.nv b)
  have hva := N.nv_ofN (N.nv a)
  have hvb := N.nv_ofN (N.nv b)
  go_enter Tryz.func94, Tryz.ntmps94
  have HVA := Lib.hid hva
  have HVB := Lib.hid hvb
  clear hva hvb
  go_wp2_with fail
  refine (bare_any _ A n c a ha hn).mono ?_
  rintro e w' ⟨rfl, rfl⟩
  go_wp2_with fail
  refine (bare_any _ B m d b hb hm).mono ?_
  rintro e w' ⟨rfl, rfl⟩
  clear ha hb
  generalize N.ofN (N.nv a) = a' at *
  generalize N.ofN (N.nv b) = b' at *
  rcases Nat.lt_trichotomy a'.length b'.length with hl | hl | hl
  · have h1 : ((a'.length : Int) != (b'.length : Int)) = true := by rw [bne_iff_ne]; omega
    have h2 : decide (a'.length < b'.length) = true := by simpa using hl
    go_wp2_with fail
    go_ret
    exact ⟨ret_i (by rw [← HVA.out, ← HVB.out, N.cmpN_lt (N.bare_len_lt ha1.lim hB hl)]), Below.refl _ _⟩
  · generalize hp : a'.length = p at *
    subst hl
    have HP := Lib.hid hp
    clear hp
    go_wp2_with fail
    go_loopw [5] (fun v wr => Below w.heap.size w wr ∧ ((v = .int .i64 (-1) ∧ ∀ i, i < b'.length → N.dg a' i = N.dg b' i) ∨ ∃ j : Nat, j < b'.length ∧ v = .int .i64 j ∧ ∀ i, j < i → i < b'.length → N.dg a' i = N.dg b' i)) (fun v _ => (intOf v + 1).toNat)
    case atStart =>
      refine ⟨Below.refl _ _, ?_⟩
      by_cases h0 : b'.length = 0
      · exact .inl ⟨by rw [h0]; rfl, fun i hi => by omega⟩
      · exact .inr ⟨b'.length - 1, by omega, by go_num, fun i h1 h2 => by omega⟩
    case round =>
      obtain ⟨hbl, hrel⟩ := hrel
      rcases hrel with ⟨rfl, he⟩ | ⟨j, hj, rfl, he⟩
      · have HE := Lib.hid he
        clear he
        go_wp2_with fail
        go_ret
        exact ⟨ret_i (by rw [← HVA.out, ← HVB.out, N.ext_dg (HP.out.trans rfl) (fun k hk => HE.out k (by rw [HP.out] at hk; exact hk)), N.cmpN_eq]), hbl⟩
      · have HE := Lib.hid he
        clear he
        obtain ⟨ba, oa, rfl, hca⟩ := (ha1.below hbl).cells (by omega)
        obtain ⟨bb, ob, rfl, hcb⟩ := (hb1.below hbl).cells (by omega)
        have h1 := hca j (by omega)
        have h2 := hcb j hj
        clear hca hcb
        have h0 : (0 : Int) ≤ j := by omega
        rcases Nat.lt_trichotomy (N.dg a' j) (N.dg b' j) with hd | hd | hd
        · have hlt := N.dg_hi_lt (a := a') (b := b') HP.out ha1.lim (i := j) (by rw [HP.out]; exact hj) (fun k h3 h4 => HE.out k h3 (by rw [HP.out] at h4; exact h4)) hd
          have t1 : decide (N.dg a' j < N.dg b' j) = true := by simpa using hd
          go_wp2_with fail
          go_quiet (fail)
          go_wp2_with fail
          go_ret
          exact ⟨ret_i (by rw [← HVA.out, ← HVB.out, N.cmpN_lt hlt]), below_drewN hbl _⟩
        · have t1 : decide (N.dg a' j < N.dg b' j) = false := by simp; omega
          have t2 : decide (N.dg b' j < N.dg a' j) = false := by simp; omega
          have HD := Lib.hid hd
          clear hd
          go_wp2_with fail
          go_quiet (fail)
          go_wp2_with fail
          go_quiet (fail)
          go_wp2_with fail
          go_roundw
          case rel =>
            refine ⟨below_drewN hbl _, ?_⟩
            have he : ∀ i, j ≤ i → i < b'.length → N.dg a' i = N.dg b' i := fun i h3 h4 => by
              rcases Nat.lt_or_ge j i with h5 | h5
              · exact HE.out i h5 h4
              · obtain rfl : i = j := by omega
                exact HD.out
            by_cases hj0 : j = 0
            · subst hj0
              exact .inl ⟨rfl, fun i hi => he i (Nat.zero_le _) hi⟩
            · exact .inr ⟨j - 1, by omega, by go_num, fun i h3 h4 => he i (by omega) h4⟩
          case measure => simp [intOf]
        · have hlt := N.dg_hi_lt (a := b') (b := a') HP.out.symm hb1.lim (i := j) hj (fun k h3 h4 => (HE.out k h3 h4).symm) hd
          have t1 : decide (N.dg a' j < N.dg b' j) = false := by simp; omega
          have t2 : decide (N.dg b' j < N.dg a' j) = true := by simpa using hd
          go_wp2_with fail
          go_quiet (fail)
          go_wp2_with fail
          go_quiet (fail)
          go_wp2_with fail
          go_ret
          exact ⟨ret_i (by rw [← HVA.out, ← HVB.out, N.cmpN_gt hlt]), below_drewN (below_drewN hbl _) _⟩
  · have h1 : ((a'.length : Int) != (b'.length : Int)) = true := by rw [bne_iff_ne]; omega
    have h2 : decide (a'.length < b'.length) = false := by simp; omega
    go_wp2_with fail
    go_ret
    exact ⟨ret_i (by rw [← HVA.out, ← HVB.out, N.cmpN_gt (N.bare_len_lt hb1.lim hA hl)]), Below.refl _ _⟩
theorem cmp_v {w : World} {a b : Value} {K L x y : Nat} (ha : Val w a K x) (hb : Val w b L y) (hK : K ≤ 9223372036854775807) (hL : L ≤ 9223372036854775807) :
    Calls Tryz.prog 94 #[a, b] w fun e w' => e = .returned (.int .i64 (N.cmpN x y)) ∧ Below w.heap.size w w' := by
  obtain ⟨A, n, c, l, rfl, hs, rfl, hn⟩ := ha
  obtain ⟨B, m, d, k, rfl, ht, rfl, hm⟩ := hb
  exact cmp_any w A n c l B m d k hs ht (by omega) (by omega)
theorem text_v {w : World} {a : Value} {K x : Nat} (ha : Val w a K x) (hK : K ≤ 1099511627776) :
    Calls Tryz.prog 147 #[a] w fun e w' => e = .returned (.string ⟨(N.txt x).toArray⟩) ∧ Below w.heap.size w w' := by
  obtain ⟨A, n, c, l, rfl, hs, rfl, hn⟩ := ha
  exact text_any w A n c l hs (by omega)
theorem txt_len_bits {x K : Nat} (h : x < 4294967296 ^ K) : (N.txt x).length ≤ 32 * K + 1 := by
  have h1 : x < 10 ^ (32 * K + 1) := by
    rw [show 4294967296 = 2 ^ 32 from rfl, ← Nat.pow_mul] at h
    have h2 : 2 ^ (32 * K) ≤ 10 ^ (32 * K) := Nat.pow_le_pow_left (by omega) _
    have h3 : 10 ^ (32 * K) ≤ 10 ^ (32 * K + 1) := Nat.pow_le_pow_right (by omega) (by omega)
    omega
  rcases Nat.eq_zero_or_pos x with h0 | h0
  · subst h0; exact Nat.le_add_left _ _
  · obtain ⟨z, hz⟩ := N.pad_txt _ x h0 h1
    have h2 := congrArg List.length hz
    rw [N.pad_length, List.length_append] at h2
    omega
def ztxt (z : Int) : List UInt8 := if z < 0 then 45 :: N.txt z.natAbs else N.txt z.natAbs
set_option maxRecDepth 100000 in
set_option maxHeartbeats 1600000 in
theorem text_i {w : World} {v : Value} {K : Nat} {z : Int} (h : IV w v K z) (hK : K ≤ 1099511627776) :
    Calls Tryz.prog 114 #[v] w fun e w' => e = .returned (.string ⟨(ztxt z).toArray⟩) ∧ Below w.heap.size w w' := by
  obtain ⟨G, hG⟩ : ∃ G, G = ztxt z := ⟨_, rfl⟩
  rw [← hG]
  unfold ztxt at hG
  have HG := Lib.hid hG
  clear hG
  obtain ⟨s, x, ⟨sl, rfl, hm⟩, hz⟩ := h
  have hx : x = z.natAbs := by rw [← hz, natAbs_sgn]
  have HX := Lib.hid hx
  have HZ := Lib.hid hz
  clear hz hx
  obtain ⟨W, hW, hp0, hbw⟩ : ∃ W : World, W = w.alloc (.cells #[.bool s, sl] 25) ∧ Pair W w.heap.size 25 (.bool s) sl ∧ Below w.heap.size w W := ⟨_, rfl, Pair.new _ _ _ _, below_alloc1 _ _⟩
  have HW := Lib.hid hW
  clear hW
  go_enter Tryz.func114, Tryz.ntmps114
  go_wp2_with fail
  rw [← HW.out]
  refine (sign_i (z := z) (K := K) ⟨s, x, ⟨_, rfl, hm.below hbw⟩, HZ.out⟩ (by omega)).mono ?_
  rintro e w1 ⟨rfl, hb1⟩
  replace hp0 := hp0.below hb1
  replace hbw := below_on hbw hb1
  obtain ⟨_, _, c00, c01⟩ := hp0.facts
  clear hb1 hp0 HW
  obtain ⟨p, hp⟩ : ∃ p, isgn z = p := ⟨_, rfl⟩
  rw [hp]
  rcases isgn_cases z with ⟨h1, e1⟩ | ⟨h1, e1⟩ | ⟨h1, e1⟩
  · rw [e1] at hp
    subst hp
    have H1 := Lib.hid h1
    clear h1 e1
    go_wp2_with fail
    have hl := txt_len_bits hm.val.lt
    refine (text_v (hm.below hbw).val (by omega)).mono ?_
    rintro e w2 ⟨rfl, hb2⟩
    replace hbw := below_on hbw hb2
    obtain ⟨D, hD⟩ : ∃ D : ByteArray, D = ⟨(N.txt x).toArray⟩ := ⟨_, rfl⟩
    have hDs : D.size ≤ 32 * K + 1 := by rw [hD]; simpa [ByteArray.size] using hl
    rw [← hD]
    have HD := Lib.hid hD
    clear hD hl
    have hns : ¬ (9223372036854775807 < 1 + D.size) := by omega
    have hns2 : ¬ (9223372036854775807 < ByteArray.size ⟨#[45]⟩ + D.size) := hns
    go_wp2_with fail
    go_ret
    refine ⟨?_, hbw⟩
    rw [HG.out, if_pos H1.out, ← HX.out]
    refine congrArg Ending.returned (congrArg Value.string ?_)
    rw [HD.out]
    apply ByteArray.ext
    simp
  all_goals
    rw [e1] at hp
    subst hp
    have H1 := Lib.hid h1
    clear h1 e1
    go_wp2_with fail
    refine (text_v (hm.below hbw).val (by omega)).mono ?_
    rintro e w2 ⟨rfl, hb2⟩
    replace hbw := below_on hbw hb2
    go_wp2_with fail
    go_ret
    exact ⟨by rw [HG.out, if_neg (by have := H1.out; omega), ← HX.out]; rfl, hbw⟩
set_option maxRecDepth 100000 in
set_option maxHeartbeats 4000000 in
theorem cmp_i {w : World} {a b : Value} {K L : Nat} {x y : Int} (ha : IV w a K x) (hb : IV w b L y) (hK : K + L < 17592186044416) :
    Calls Tryz.prog 52 #[a, b] w fun e w' => e = .returned (.int .i64 (icmp x y)) ∧ Below w.heap.size w w' := by
  obtain ⟨s, m, ⟨sa, rfl, ha⟩, rfl⟩ := ha
  obtain ⟨t, n, ⟨sb, rfl, hb⟩, rfl⟩ := hb
  obtain ⟨G, hG⟩ : ∃ G, G = icmp (sgn s m) (sgn t n) := ⟨_, rfl⟩
  rw [← hG]
  have HG := Lib.hid hG
  clear hG
  obtain ⟨W, hW, hp0, hp1, hsz, hbW⟩ := enter2r w 25 (.bool s) sa (.bool t) sb
  have hS0 : ∀ w', Below (w.heap.size + 2) W w' → (fun w' => ((w'.cell? ⟨w.heap.size, 0, none⟩ = some (.bool s) ∧ w'.cell? ⟨w.heap.size, 1, none⟩ = some sa) ∧ (w'.cell? ⟨w.heap.size + 1, 0, none⟩ = some (.bool t) ∧ w'.cell? ⟨w.heap.size + 1, 1, none⟩ = some sb)) ∧ Below (w.heap.size + 2) W w') w' := fun w' h => ⟨⟨⟨(hp0.keep h (by omega)).facts.2.2.1, (hp0.keep h (by omega)).facts.2.2.2⟩, ⟨(hp1.keep h (by omega)).facts.2.2.1, (hp1.keep h (by omega)).facts.2.2.2⟩⟩, h⟩
  have hR0 : w.heap.size + 2 ≤ W.heap.size := by omega
  have hB0 : ∀ w', Below (w.heap.size + 2) W w' → Below w.heap.size w w' := fun w' h => hbW.trans (h.mono (by omega))
  obtain ⟨_, _, c00, c01⟩ := hp0.facts
  obtain ⟨_, _, c10, c11⟩ := hp1.facts
  have HS0 := Lib.hid hS0
  have HR := Lib.hid hR0
  have HB := Lib.hid hB0
  have HW := Lib.hid hW
  clear hS0 hR0 hB0 hbW hsz hW
  go_enter Tryz.func52, Tryz.ntmps52
  go_wp2_with fail
  rw [← HW.out]
  go_region_held3 (fun w' => ((w'.cell? ⟨w.heap.size, 0, none⟩ = some (.bool s) ∧ w'.cell? ⟨w.heap.size, 1, none⟩ = some sa) ∧ (w'.cell? ⟨w.heap.size + 1, 0, none⟩ = some (.bool t) ∧ w'.cell? ⟨w.heap.size + 1, 1, none⟩ = some sb)) ∧ Below (w.heap.size + 2) W w')
    (first | assumption | exact HS0.out _ (by assumption) | exact HS0.out _ (Below.drew (by assumption)) | exact HS0.out _ (Below.refl _ _).drew | exact HS0.out _ (below_pair (by assumption) (Nat.le_refl _) _ _) | exact HS0.out _ (below_pair (below_pair (by assumption) (Nat.le_refl _) _ _) (Nat.le_succ _) _ _))
    (first
      | (go_at_call_of 93 (Value.agg #[.bool s, sa]); (try clear hS); refine (sign_i ⟨s, m, ⟨sa, rfl, (ha.below (HB.out _ (s_below (by assumption))))⟩, rfl⟩ (by omega)).mono ?_; rintro e w1 ⟨rfl, hb1⟩; have hS := on_go HR.out (s_below (by assumption)) hb1; clear hb1)
      | (go_at_call 93; (try clear hS); refine (sign_i ⟨t, n, ⟨sb, rfl, (hb.below (HB.out _ (s_below (by assumption))))⟩, rfl⟩ (by omega)).mono ?_; rintro e w2 ⟨rfl, hb2⟩; have hS := on_go HR.out (s_below (by assumption)) hb2; clear hb2))
  obtain ⟨p, hp⟩ : ∃ p, isgn (sgn s m) = p := ⟨_, rfl⟩
  obtain ⟨q, hq⟩ : ∃ q, isgn (sgn t n) = q := ⟨_, rfl⟩
  rw [hp, hq]
  have hbw := HB.out _ hS
  obtain ⟨⟨⟨c00, c01⟩, ⟨c10, c11⟩⟩, _⟩ := HS0.out _ hS
  rcases isgn_cases (sgn s m) with ⟨h1, e1⟩ | ⟨h1, e1⟩ | ⟨h1, e1⟩
  · rw [e1] at hp
    subst hp
    have H1 := Lib.hid h1
    clear h1 e1
    rcases isgn_cases (sgn t n) with ⟨h2, e2⟩ | ⟨h2, e2⟩ | ⟨h2, e2⟩
    · rw [e2] at hq
      subst hq
      have H2 := Lib.hid h2
      clear h2 e2
      go_wp2_with fail
      refine (cmp_v (hb.below hbw).val (ha.below hbw).val (by omega) (by omega)).mono ?_
      rintro e w3 ⟨rfl, hb3⟩
      replace hbw := below_on hbw hb3
      go_wp2_with fail
      go_ret
      exact ⟨by have h1 := sgn_lt H1.out; have h2 := sgn_lt H2.out; subst h1; subst h2; rw [HG.out, icmp_neg]; rfl, hbw⟩
    · rw [e2] at hq
      subst hq
      have H2 := Lib.hid h2
      clear h2 e2
      go_wp2_with fail
      go_ret
      exact ⟨by rw [HG.out, icmp_lt (by have := H1.out; have := H2.out; omega)]; rfl, hbw⟩
    · rw [e2] at hq
      subst hq
      have H2 := Lib.hid h2
      clear h2 e2
      go_wp2_with fail
      go_ret
      exact ⟨by rw [HG.out, icmp_lt (by have := H1.out; have := H2.out; omega)]; rfl, hbw⟩
  · rw [e1] at hp
    subst hp
    have H1 := Lib.hid h1
    clear h1 e1
    rcases isgn_cases (sgn t n) with ⟨h2, e2⟩ | ⟨h2, e2⟩ | ⟨h2, e2⟩
    · rw [e2] at hq
      subst hq
      have H2 := Lib.hid h2
      clear h2 e2
      go_wp2_with fail
      go_ret
      exact ⟨by rw [HG.out, icmp_gt (by have := H1.out; have := H2.out; omega)]; rfl, hbw⟩
    · rw [e2] at hq
      subst hq
      have H2 := Lib.hid h2
      clear h2 e2
      go_wp2_with fail
      refine (cmp_v (ha.below hbw).val (hb.below hbw).val (by omega) (by omega)).mono ?_
      rintro e w3 ⟨rfl, hb3⟩
      replace hbw := below_on hbw hb3
      go_wp2_with fail
      go_ret
      exact ⟨by have h1 := sgn_eq_zero.1 H1.out; have h2 := sgn_eq_zero.1 H2.out; subst h1; subst h2; rw [HG.out, sgn_zero, sgn_zero, icmp_eq]; rfl, hbw⟩
    · rw [e2] at hq
      subst hq
      have H2 := Lib.hid h2
      clear h2 e2
      go_wp2_with fail
      go_ret
      exact ⟨by rw [HG.out, icmp_lt (by have := H1.out; have := H2.out; omega)]; rfl, hbw⟩
  · rw [e1] at hp
    subst hp
    have H1 := Lib.hid h1
    clear h1 e1
    rcases isgn_cases (sgn t n) with ⟨h2, e2⟩ | ⟨h2, e2⟩ | ⟨h2, e2⟩
    · rw [e2] at hq
      subst hq
      have H2 := Lib.hid h2
      clear h2 e2
      go_wp2_with fail
      go_ret
      exact ⟨by rw [HG.out, icmp_gt (by have := H1.out; have := H2.out; omega)]; rfl, hbw⟩
    · rw [e2] at hq
      subst hq
      have H2 := Lib.hid h2
      clear h2 e2
      go_wp2_with fail
      go_ret
      exact ⟨by rw [HG.out, icmp_gt (by have := H1.out; have := H2.out; omega)]; rfl, hbw⟩
    · rw [e2] at hq
      subst hq
      have H2 := Lib.hid h2
      clear h2 e2
      go_wp2_with fail
      refine (cmp_v (ha.below hbw).val (hb.below hbw).val (by omega) (by omega)).mono ?_
      rintro e w3 ⟨rfl, hb3⟩
      replace hbw := below_on hbw hb3
      go_wp2_with fail
      go_ret
      exact ⟨by have h1 := sgn_gt H1.out; have h2 := sgn_gt H2.out; subst h1; subst h2; rw [HG.out, icmp_pos]; rfl, hbw⟩
end Go.Proofs.YthiadenmljbdaaaGreatDoor
end
section
namespace Go.Proofs.YthiadenmljbdaaaGreatDoor
open Go.RowKit
open Go.Shelf
theorem isB_below {B b : Nat} {bs : List Value} {w w' : World} (h : Lib.IsBuilder TW TB B b bs w) (hb : Below w.heap.size w w') : Lib.IsBuilder TW TB B b bs w' := by
  rcases h with h | h
  · have hl := h.lt
    obtain ⟨hB, v, hbk, hown, hne⟩ := h
    exact .inl ⟨hB, v, (hb.block b hl).trans hbk, hown.kept (gb_of_below hb none) (by cases hv : v.ownBlock <;> simp), hne⟩
  · have hl := h.lt
    obtain ⟨hB, v, hbk, hown, hne⟩ := h
    exact .inr ⟨hB, v, (hb.block b hl).trans hbk, hown.kept (gb_of_below hb none) (by cases hv : v.ownBlock <;> simp), hne⟩
theorem ok_below {b : Nat} {w w' : World} (hb : Below w.heap.size w w') : Lib.OthersKept TB (some b) w w' :=
  fun k _ hk _ _ => (hb.block k (Array.getElem?_eq_some_iff.1 hk).1).trans hk
theorem num_text {w : World} {R : Nat → Prop} {A : Option Addr} {c : Nat} {mg : List Nat} (h : SlR w R A c mg) (hl : mg.length ≤ 1099511627776) :
    Calls Tryz.prog 114 #[.agg #[.bool false, .slice A mg.length c]] w fun e w' => e = .returned (.string ⟨(N.txt (N.nv mg)).toArray⟩) ∧ Below w.heap.size w w' := by
  have hz : ztxt (N.nv mg : Int) = N.txt (N.nv mg) := by unfold ztxt; rw [if_neg (by omega)]; rfl
  rw [← hz]
  exact text_i (K := mg.length) ⟨false, N.nv mg, ⟨_, rfl, A, mg.length, c, mg, rfl, Pl.any A, h.1, rfl, Nat.le_refl _⟩, sgn_false _⟩ hl
theorem strCells_txt (x : Nat) : Lib.strCells ⟨(N.txt x).toArray⟩ = Lib.byteCells (N.txt x) := by simp [Lib.strCells, Lib.byteCells]
theorem SlR.under {w w' : World} {R : Nat → Prop} {A : Option Addr} {c : Nat} {l : List Nat} {B : Nat} (h : SlR w R A c l) (hR : ∀ g, R g → g < B) (hb : Below B w w') : SlR w' R A c l :=
  h.keep (fun _ _ hp hc => (hb.cell (hR _ hp)).trans hc) (fun _ h => h)
attribute [local go_sem] Oper.semAt_some
set_option maxHeartbeats 1600000 in
set_option maxRecDepth 100000 in
theorem term_num (m : List Nat) (hml : m.length ≤ 1099511627776) : TermW (.node 1 ⟨#[]⟩ [] false m []) := by
  intro B b bs tg w R v h hR hIs hlen hBw
  have e : termB (.node 1 ⟨#[]⟩ [] false m []) tg = N.txt (N.nv m) := by
    cases tg
    · show P.bytes [P.Nu m] = _
      simp [P.bytes, P.itB]
    · show P.bytes [P.Nu m] = _
      simp [P.bytes, P.itB]
  rw [e] at hlen ⊢
  clear e
  rw [T.In] at h
  obtain ⟨A1, c1, A2, c2, A3, c3, rfl, _, hs2, _⟩ := h
  obtain ⟨S, hS⟩ : ∃ S : ByteArray, S = ⟨(N.txt (N.nv m)).toArray⟩ := ⟨_, rfl⟩
  have hsz : S.size = (N.txt (N.nv m)).length := by rw [hS]; simp [ByteArray.size]
  have hlS : bs.length + S.size ≤ 140737488355328 := by omega
  have HSC : Hid (Lib.strCells S = Lib.byteCells (N.txt (N.nv m))) := Lib.hid (by rw [hS]; exact strCells_txt _)
  have HNT := Lib.hid (fun (w : World) (h : SlR w R A2 c2 m) => hS ▸ num_text h hml)
  have HS2 := Lib.hid hs2
  have HR := Lib.hid hR
  clear hsz hlen hS hs2 hR
  rw [← HSC.out]
  unfold tv
  simp only [List.length_nil]
  refine calls_of_wp_defers Tryz.func115 rfl ?_
  simp only [Tryz.ntmps115, List.size_toArray, List.length_cons, List.length_nil, Nat.reduceAdd, Nat.reduceSub, Array.replicate_succ, Array.replicate_zero, List.push_toArray, List.append_toArray, List.nil_append, List.cons_append]
  have HP := hp_term (fun e w' => e = .returned (.tuple #[]) ∧ (Lib.BuilderAt TW TB B b (.pointer (some ⟨b, 0, none⟩)) (bs ++ Lib.strCells S) w' ∧ Below B w w' ∧ Lib.OthersKept TB (some b) w w'))
  generalize hQ : bodyPostD Tryz.prog Tryz.f115 _ = Q at HP ⊢
  have HQ := Lib.hid hQ
  clear hQ
  go_upto_region 12 with (fail)
  obtain ⟨W, hW, ps, hbW⟩ := made_blk w #[.int .i64 1, .string ⟨#[]⟩, .slice A1 0 c1, .bool false, .slice A2 m.length c2, .slice A3 0 c3] 28
  obtain ⟨g, hg⟩ : ∃ g, g = w.heap.size := ⟨_, rfl⟩
  have HB : Hid (Lib.IsBuilder TW TB B b bs W) := Lib.hid (hW ▸ isB_alloc hIs _)
  have HK : Hid (Lib.OthersKept TB (some b) w W) := Lib.hid (hW ▸ (Lib.OthersKept.refl TB (some b) w).alloc _)
  have hBW : B ≤ W.heap.size := Nat.le_trans hBw hbW.size
  have HBW := Lib.hid (hbW.mono hBw)
  have HS3 := Lib.hid (HS2.out.under HR.out HBW.out)
  rw [← hW, ← hg]
  rw [← hg] at ps
  have hgb : g ≠ b := by
    have : b < w.heap.size := by rcases hIs with h' | h' <;> exact h'.lt
    omega
  clear hW hbW hIs hBw hg
  obtain ⟨x0, x1, x2, x3, x4, x5⟩ := ps.six
  refine wp_region_held_drew (S := fun w' => w'.cell? ⟨g, 3, none⟩ = some (.bool false) ∧ w'.cell? ⟨g, 4, none⟩ = some (.slice A2 m.length c2)) (by kernel_rfl) (by exact ⟨x3, x4⟩) (fun hHeld => ?_)
  refine take_at 0 (by kernel_rfl) (by kernel_rfl) (by kernel_rfl) (fun c a d v w h => HP c a d v w h) ⟨_, rfl⟩ (by assumption) (fun o ho => ?_)
  simp only [List.getElem?_toArray, List.getElem?_cons_zero, Option.some.injEq] at ho
  subst ho
  refine ⟨?_, ⟨by rfl, ?_⟩, ?_⟩
  rotate_left
  · intro w hSw
    (try dsimp only at hSw)
    obtain ⟨hS1, hS2⟩ := hSw
    (go_simp; try with_reducible rfl)
  (try simp only [Act.put, List.setIfInBounds_toArray, List.set_cons_zero, List.set_cons_succ])
  refine take_at 1 (by kernel_rfl) (by kernel_rfl) (by kernel_rfl) (fun c a d v w h => HP c a d v w h) ⟨_, rfl⟩ (by assumption) (fun o ho => ?_)
  simp only [List.getElem?_toArray, List.getElem?_cons_succ, List.getElem?_cons_zero, Option.some.injEq] at ho
  subst ho
  refine ⟨?_, ⟨by rfl, ?_⟩, ?_⟩
  rotate_left
  · intro w hSw
    (try dsimp only at hSw)
    obtain ⟨hS1, hS2⟩ := hSw
    (go_simp; try with_reducible rfl)
  (try simp only [Act.put, List.setIfInBounds_toArray, List.set_cons_zero, List.set_cons_succ])
  refine take_at 2 (by kernel_rfl) (by kernel_rfl) (by kernel_rfl) (fun c a d v w h => HP c a d v w h) ⟨_, rfl⟩ (by assumption) (fun o ho => ?_)
  simp only [List.getElem?_toArray, List.getElem?_cons_succ, List.getElem?_cons_zero, Option.some.injEq] at ho
  subst ho
  refine ⟨?_, ⟨by rfl, ?_⟩, ?_⟩
  rotate_left
  · intro w hSw
    (try dsimp only at hSw)
    obtain ⟨hS1, hS2⟩ := hSw
    (go_simp; try with_reducible rfl)
  (try simp only [Act.put, List.setIfInBounds_toArray, List.set_cons_zero, List.set_cons_succ])
  refine take_at 3 (by kernel_rfl) (by kernel_rfl) (by kernel_rfl) (fun c a d v w h => HP c a d v w h) ⟨_, rfl⟩ (by assumption) (fun o ho => ?_)
  simp only [List.getElem?_toArray, List.getElem?_cons_succ, List.getElem?_cons_zero, Option.some.injEq] at ho
  subst ho
  refine ⟨?_, ⟨by rfl, ?_⟩, ?_⟩
  rotate_left
  · intro w hSw
    (try dsimp only at hSw)
    obtain ⟨hS1, hS2⟩ := hSw
    (go_simp; try with_reducible rfl)
  (try simp only [Act.put, List.setIfInBounds_toArray, List.set_cons_zero, List.set_cons_succ])
  refine take_at 4 (by kernel_rfl) (by kernel_rfl) (by kernel_rfl) (fun c a d v w h => HP c a d v w h) ⟨_, rfl⟩ (by assumption) (fun o ho => ?_)
  simp only [List.getElem?_toArray, List.getElem?_cons_succ, List.getElem?_cons_zero, Option.some.injEq] at ho
  subst ho
  refine ⟨?_, ⟨by rfl, ?_⟩, ?_⟩
  rotate_left
  · intro w hSw
    (try dsimp only at hSw)
    obtain ⟨hS1, hS2⟩ := hSw
    (go_simp; try with_reducible rfl)
  (try simp only [Act.put, List.setIfInBounds_toArray, List.set_cons_zero, List.set_cons_succ])
  refine wpAnyH_ready (rs := [5]) (by kernel_rfl) (by simp) ?_
  refine ready_at 5 ⟨_, rfl⟩ (fun o ho K hK => ?_) AllReadyH.nil
  simp only [List.getElem?_toArray, List.getElem?_cons_succ, List.getElem?_cons_zero, Option.some.injEq] at ho
  subst ho
  go_simp
  go_at_call 114
  refine (HNT.out W.drew (HS3.out.keep (fun _ _ _ h => h) (fun _ h => h))).mono ?_
  rintro e w1 ⟨rfl, hb1⟩
  have hB1 : B ≤ w1.heap.size := Nat.le_trans hBW hb1.size
  have HB1 := Lib.hid (isB_below (show Lib.IsBuilder TW TB B b bs W.drew from HB.out) hb1)
  have HBW1 := Lib.hid ((HBW.out.drew).trans (hb1.mono hBW))
  have HK1 := Lib.hid ((HK.out.drew).trans (ok_below hb1))
  have pg1 : Blk w1 g 28 #[.int .i64 1, .string ⟨#[]⟩, .slice A1 0 c1, .bool false, .slice A2 m.length c2, .slice A3 0 c3] := ok_below hb1 g _ ps (by simpa using hgb) (fun c fz e => by injection e with _ e _; exact absurd e (by decide))
  clear hb1
  refine hK.out _ _ ?_ (fun hHeld2 => ?_)
  · obtain ⟨_, _, _, y3, y4, _⟩ := pg1.six
    exact ⟨y3, y4⟩
  replace hHeld := hHeld2
  clear hK K hHeld2
  (try simp only [List.setIfInBounds_toArray, List.set_cons_zero, List.set_cons_succ])
  refine wpAnyH_ready (rs := [6]) (by kernel_rfl) (by simp) ?_
  refine ready_at 6 ⟨_, rfl⟩ (fun o ho K hK => ?_) AllReadyH.nil
  simp only [List.getElem?_toArray, List.getElem?_cons_succ, List.getElem?_cons_zero, Option.some.injEq] at ho
  subst ho
  go_simp
  go_at_call 78
  refine (wstr_w B b bs S w1 HB1.out hlS hB1).mono ?_
  rintro e w2 ⟨rfl, h2, hb2, hk2⟩
  have pg2 : Blk w2 g 28 #[.int .i64 1, .string ⟨#[]⟩, .slice A1 0 c1, .bool false, .slice A2 m.length c2, .slice A3 0 c3] := hk2 g _ pg1 (by simpa using hgb) (fun c fz e => by injection e with _ e _; exact absurd e (by decide))
  refine hK.out _ _ ?_ (fun hHeld2 => ?_)
  · obtain ⟨_, _, _, y3, y4, _⟩ := pg2.six
    exact ⟨y3, y4⟩
  replace hHeld := hHeld2
  clear hK K hHeld2
  (try simp only [List.setIfInBounds_toArray, List.set_cons_zero, List.set_cons_succ])
  refine wpAnyH_done (by kernel_rfl) ?_ _
  go_wp2
  rw [← HQ.out]
  exact ⟨_, results_no (by kernel_rfl) _ _, rfl, h2, (HBW1.out).trans hb2, (HK1.out).trans hk2⟩
end Go.Proofs.YthiadenmljbdaaaGreatDoor
end
section
namespace Go.Proofs.YthiadenmljbdaaaGreatDoor
open Go.RowKit
open Go.Shelf
attribute [local go_sem] Oper.semAt_some
set_option maxHeartbeats 2000000 in
set_option maxRecDepth 100000 in
theorem term_mul (m : List Nat) (hml : m.length ≤ 1099511627776) (t : T) (ih : TermW t) : TermW (.node 6 ⟨#[]⟩ [] false m [t]) := by
  intro B b bs tg w R v h hR hIs hlen hBw
  have e : termB (.node 6 ⟨#[]⟩ [] false m [t]) tg = (N.txt (N.nv m) ++ [32, 42, 32]) ++ termB t true := by
    have hb := P.body_mul m t
    have ht : P.tight (P.pt (.node 6 ⟨#[]⟩ [] false m [t])) = P.body (.node 6 ⟨#[]⟩ [] false m [t]) true := by unfold P.tight; rw [if_neg (by show ¬((6 : Int) = 4 ∨ (6 : Int) = 5); decide)]; rfl
    unfold termB
    rw [ht, ite_self, hb, P.bytes_cons, P.bytes_cons, P.bytes_cons, P.bytes_cons]
    rw [if_pos rfl, List.append_assoc]
    rfl
  rw [e] at hlen ⊢
  clear e
  rw [T.In] at h
  obtain ⟨A1, c1, A2, c2, A3, c3, rfl, _, hs2, hc3, hk⟩ := h
  obtain ⟨kb, ko, rfl, hRk, hI⟩ := hk (by simp)
  rw [T.Ins] at hI
  obtain ⟨⟨v0, v1, v2, v3, v4, v5, h6, hI0⟩, _⟩ := hI
  have hkB := hR kb hRk
  obtain ⟨S, hS⟩ : ∃ S : ByteArray, S = ⟨(N.txt (N.nv m)).toArray⟩ := ⟨_, rfl⟩
  have hsz : S.size = (N.txt (N.nv m)).length := by rw [hS]; simp [ByteArray.size]
  have HSC : Hid (Lib.strCells (S ++ ⟨#[32, 42, 32]⟩) = Lib.byteCells (N.txt (N.nv m) ++ [32, 42, 32])) := Lib.hid (by rw [hS]; simp [Lib.strCells, Lib.byteCells])
  have hsz2 : (S ++ ⟨#[32, 42, 32]⟩ : ByteArray).size = S.size + 3 := by rw [ByteArray.size_append]; rfl
  have hlS : bs.length + (S ++ ⟨#[32, 42, 32]⟩ : ByteArray).size ≤ 140737488355328 := by simp only [List.length_append, List.length_cons, List.length_nil] at hlen; omega
  have hl1 : (bs ++ Lib.strCells (S ++ ⟨#[32, 42, 32]⟩)).length + (termB t true).length ≤ 140737488355328 := by rw [List.length_append, Lib.strCells_length]; simp only [List.length_append, List.length_cons, List.length_nil] at hlen; omega
  have hcat : ¬ (9223372036854775807 < S.size + (⟨#[32, 42, 32]⟩ : ByteArray).size) := by have : (⟨#[32, 42, 32]⟩ : ByteArray).size = 3 := rfl; omega
  have hcat2 : ¬ (9223372036854775807 < S.size + 3) := by omega
  have HNT := Lib.hid (fun (w : World) (h : SlR w R A2 c2 m) => hS ▸ num_text h hml)
  have HS2 := Lib.hid hs2
  have HR := Lib.hid hR
  have IH := Lib.hid ih
  have H6 := Lib.hid h6
  have HI := Lib.hid hI0
  have HL1 := Lib.hid hl1
  clear hsz hlen hS hs2 hR ih h6 hI0 hk hl1 hsz2
  rw [Lib.byteCells_append, ← List.append_assoc, ← HSC.out]
  unfold tv
  simp only [List.length_nil, List.length_cons, Nat.zero_add]
  refine calls_of_wp_defers Tryz.func115 rfl ?_
  simp only [Tryz.ntmps115, List.size_toArray, List.length_cons, List.length_nil, Nat.reduceAdd, Nat.reduceSub, Array.replicate_succ, Array.replicate_zero, List.push_toArray, List.append_toArray, List.nil_append, List.cons_append]
  have HP := hp_term (fun e w' => e = .returned (.tuple #[]) ∧ (Lib.BuilderAt TW TB B b (.pointer (some ⟨b, 0, none⟩)) (bs ++ Lib.strCells (S ++ ⟨#[32, 42, 32]⟩) ++ Lib.byteCells (termB t true)) w' ∧ Below B w w' ∧ Lib.OthersKept TB (some b) w w'))
  generalize hQ : bodyPostD Tryz.prog Tryz.f115 _ = Q at HP ⊢
  have HQ := Lib.hid hQ
  clear hQ
  go_upto_region 19 with (fail)
  obtain ⟨W, hW, ps, hbW⟩ := made_blk w #[.int .i64 6, .string ⟨#[]⟩, .slice A1 0 c1, .bool false, .slice A2 m.length c2, .slice (some ⟨kb, ko, none⟩) 1 c3] 28
  obtain ⟨g, hg⟩ : ∃ g, g = w.heap.size := ⟨_, rfl⟩
  have HB : Hid (Lib.IsBuilder TW TB B b bs W) := Lib.hid (hW ▸ isB_alloc hIs _)
  have HK : Hid (Lib.OthersKept TB (some b) w W) := Lib.hid (hW ▸ (Lib.OthersKept.refl TB (some b) w).alloc _)
  have hBW : B ≤ W.heap.size := Nat.le_trans hBw hbW.size
  have HBW := Lib.hid (hbW.mono hBw)
  have HS3 := Lib.hid (HS2.out.under HR.out HBW.out)
  rw [← hW, ← hg]
  rw [← hg] at ps
  have hgb : g ≠ b := by
    have : b < w.heap.size := by rcases hIs with h' | h' <;> exact h'.lt
    omega
  clear hW hbW hIs hBw hg
  obtain ⟨x0, x1, x2, x3, x4, x5⟩ := ps.six
  refine wp_region_held_drew (S := fun w' => w'.cell? ⟨g, 3, none⟩ = some (.bool false) ∧ w'.cell? ⟨g, 4, none⟩ = some (.slice A2 m.length c2)) (by kernel_rfl) (by exact ⟨x3, x4⟩) (fun hHeld => ?_)
  refine take_at 0 (by kernel_rfl) (by kernel_rfl) (by kernel_rfl) (fun c a d v w h => HP c a d v w h) ⟨_, rfl⟩ (by assumption) (fun o ho => ?_)
  simp only [List.getElem?_toArray, List.getElem?_cons_zero, Option.some.injEq] at ho
  subst ho
  refine ⟨?_, ⟨by rfl, ?_⟩, ?_⟩
  rotate_left
  · intro w hSw
    (try dsimp only at hSw)
    obtain ⟨hS1, hS2⟩ := hSw
    (go_simp; try with_reducible rfl)
  (try simp only [Act.put, List.setIfInBounds_toArray, List.set_cons_zero, List.set_cons_succ])
  refine take_at 1 (by kernel_rfl) (by kernel_rfl) (by kernel_rfl) (fun c a d v w h => HP c a d v w h) ⟨_, rfl⟩ (by assumption) (fun o ho => ?_)
  simp only [List.getElem?_toArray, List.getElem?_cons_succ, List.getElem?_cons_zero, Option.some.injEq] at ho
  subst ho
  refine ⟨?_, ⟨by rfl, ?_⟩, ?_⟩
  rotate_left
  · intro w hSw
    (try dsimp only at hSw)
    obtain ⟨hS1, hS2⟩ := hSw
    (go_simp; try with_reducible rfl)
  (try simp only [Act.put, List.setIfInBounds_toArray, List.set_cons_zero, List.set_cons_succ])
  refine take_at 2 (by kernel_rfl) (by kernel_rfl) (by kernel_rfl) (fun c a d v w h => HP c a d v w h) ⟨_, rfl⟩ (by assumption) (fun o ho => ?_)
  simp only [List.getElem?_toArray, List.getElem?_cons_succ, List.getElem?_cons_zero, Option.some.injEq] at ho
  subst ho
  refine ⟨?_, ⟨by rfl, ?_⟩, ?_⟩
  rotate_left
  · intro w hSw
    (try dsimp only at hSw)
    obtain ⟨hS1, hS2⟩ := hSw
    (go_simp; try with_reducible rfl)
  (try simp only [Act.put, List.setIfInBounds_toArray, List.set_cons_zero, List.set_cons_succ])
  refine take_at 3 (by kernel_rfl) (by kernel_rfl) (by kernel_rfl) (fun c a d v w h => HP c a d v w h) ⟨_, rfl⟩ (by assumption) (fun o ho => ?_)
  simp only [List.getElem?_toArray, List.getElem?_cons_succ, List.getElem?_cons_zero, Option.some.injEq] at ho
  subst ho
  refine ⟨?_, ⟨by rfl, ?_⟩, ?_⟩
  rotate_left
  · intro w hSw
    (try dsimp only at hSw)
    obtain ⟨hS1, hS2⟩ := hSw
    (go_simp; try with_reducible rfl)
  (try simp only [Act.put, List.setIfInBounds_toArray, List.set_cons_zero, List.set_cons_succ])
  refine take_at 4 (by kernel_rfl) (by kernel_rfl) (by kernel_rfl) (fun c a d v w h => HP c a d v w h) ⟨_, rfl⟩ (by assumption) (fun o ho => ?_)
  simp only [List.getElem?_toArray, List.getElem?_cons_succ, List.getElem?_cons_zero, Option.some.injEq] at ho
  subst ho
  refine ⟨?_, ⟨by rfl, ?_⟩, ?_⟩
  rotate_left
  · intro w hSw
    (try dsimp only at hSw)
    obtain ⟨hS1, hS2⟩ := hSw
    (go_simp; try with_reducible rfl)
  (try simp only [Act.put, List.setIfInBounds_toArray, List.set_cons_zero, List.set_cons_succ])
  refine wpAnyH_ready (rs := [5]) (by kernel_rfl) (by simp) ?_
  refine ready_at 5 ⟨_, rfl⟩ (fun o ho K hK => ?_) AllReadyH.nil
  simp only [List.getElem?_toArray, List.getElem?_cons_succ, List.getElem?_cons_zero, Option.some.injEq] at ho
  subst ho
  go_simp
  go_at_call 114
  refine (HNT.out W.drew (HS3.out.keep (fun _ _ _ h => h) (fun _ h => h))).mono ?_
  rintro e w1 ⟨rfl, hb1⟩
  have hB1 : B ≤ w1.heap.size := Nat.le_trans hBW hb1.size
  have HB1 := Lib.hid (isB_below (show Lib.IsBuilder TW TB B b bs W.drew from HB.out) hb1)
  have HBW1 := Lib.hid ((HBW.out.drew).trans (hb1.mono hBW))
  have HK1 := Lib.hid ((HK.out.drew).trans (ok_below hb1))
  have pg1 : Blk w1 g 28 #[.int .i64 6, .string ⟨#[]⟩, .slice A1 0 c1, .bool false, .slice A2 m.length c2, .slice (some ⟨kb, ko, none⟩) 1 c3] := ok_below hb1 g _ ps (by simpa using hgb) (fun c fz e => by injection e with _ e _; exact absurd e (by decide))
  clear hb1
  refine hK.out _ _ ?_ (fun hHeld2 => ?_)
  · obtain ⟨_, _, _, y3, y4, _⟩ := pg1.six
    exact ⟨y3, y4⟩
  replace hHeld := hHeld2
  clear hK K hHeld2
  (try simp only [List.setIfInBounds_toArray, List.set_cons_zero, List.set_cons_succ])
  refine take_at 6 (by kernel_rfl) (by kernel_rfl) (by kernel_rfl) (fun c a d v w h => HP c a d v w h) ⟨_, rfl⟩ (by assumption) (fun o ho => ?_)
  simp only [List.getElem?_toArray, List.getElem?_cons_succ, List.getElem?_cons_zero, Option.some.injEq] at ho
  subst ho
  refine ⟨?_, ⟨by rfl, ?_⟩, ?_⟩
  rotate_left
  · intro w hSw
    (try dsimp only at hSw)
    obtain ⟨hS1, hS2⟩ := hSw
    (go_simp; try with_reducible rfl)
  (try simp only [Act.put, List.setIfInBounds_toArray, List.set_cons_zero, List.set_cons_succ])
  refine wpAnyH_ready (rs := [7]) (by kernel_rfl) (by simp) ?_
  refine ready_at 7 ⟨_, rfl⟩ (fun o ho K hK => ?_) AllReadyH.nil
  simp only [List.getElem?_toArray, List.getElem?_cons_succ, List.getElem?_cons_zero, Option.some.injEq] at ho
  subst ho
  go_simp
  go_at_call 78
  refine (wstr_w B b bs _ w1 HB1.out ?_ hB1).mono ?_
  · exact hlS
  rintro e w2 ⟨rfl, h2, hb2, hk2⟩
  have pg2 : Blk w2 g 28 #[.int .i64 6, .string ⟨#[]⟩, .slice A1 0 c1, .bool false, .slice A2 m.length c2, .slice (some ⟨kb, ko, none⟩) 1 c3] := hk2 g _ pg1 (by simpa using hgb) (fun c fz e => by injection e with _ e _; exact absurd e (by decide))
  have HBB := Lib.hid ((HBW1.out).trans hb2)
  have HK2 := Lib.hid ((HK1.out).trans hk2)
  have hB2 : B ≤ w2.heap.size := Nat.le_trans hB1 hb2.size
  have H2 := Lib.hid h2
  clear h2 hb2 hk2
  refine hK.out _ _ ?_ (fun hHeld2 => ?_)
  · obtain ⟨_, _, _, y3, y4, _⟩ := pg2.six
    exact ⟨y3, y4⟩
  replace hHeld := hHeld2
  clear hK K hHeld2
  (try simp only [List.setIfInBounds_toArray, List.set_cons_zero, List.set_cons_succ])
  refine wpAnyH_done (by kernel_rfl) ?_ _
  clear hHeld x0 x1 x2 x3 x4 x5
  have HI1 := Lib.hid (HI.out.under HR.out HBB.out)
  obtain ⟨y0, y1, y2, y3, y4, y5⟩ := H6.out.keep (fun p v hp hc => (HBB.out.cell (by rw [hp]; exact hkB)).trans hc)
  obtain ⟨x0, x1, x2, x3, x4, x5⟩ := pg2.six
  clear ps pg1 pg2
  go_wp2_with (go_at_call 115; refine (IH.out B b (bs ++ Lib.strCells (S ++ ⟨#[32, 42, 32]⟩)) true _ R _ HI1.out HR.out (.inr H2.out) HL1.out hB2).mono ?_; rintro e w3 ⟨rfl, h3, hb3, hk3⟩)
  rw [← HQ.out]
  exact ⟨_, results_no (by kernel_rfl) _ _, rfl, h3, HBB.out.trans hb3, HK2.out.trans hk3⟩
end Go.Proofs.YthiadenmljbdaaaGreatDoor
end
section
namespace Go.Proofs.YthiadenmljbdaaaGreatDoor
open Go.RowKit Go.Shelf
attribute [local go_sem] Oper.semAt_some
set_option maxHeartbeats 1600000 in
set_option maxRecDepth 100000 in
theorem term_neg (t : T) (ih : TermW t) : TermW (P.nd 3 [t]) := by
  intro B b bs tg w R v h hR hIs hlen hBw
  have e : termB (P.nd 3 [t]) tg = 45 :: termB t true := by
    have hb := P.body_neg t
    have ht : P.tight (P.pt (P.nd 3 [t])) = P.body (P.nd 3 [t]) true := by unfold P.tight; rw [if_neg (by show ¬((3 : Int) = 4 ∨ (3 : Int) = 5); decide)]; rfl
    unfold termB
    rw [ht, ite_self, hb, P.bytes_cons]
    rfl
  rw [e] at hlen ⊢
  clear e
  rw [P.nd, T.In] at h
  obtain ⟨A1, c1, A2, c2, A3, c3, rfl, _, _, hc3, hk⟩ := h
  obtain ⟨kb, ko, rfl, hRk, hI⟩ := hk (by simp)
  rw [T.Ins] at hI
  obtain ⟨⟨v0, v1, v2, v3, v4, v5, h6, hI0⟩, _⟩ := hI
  have hkB := hR kb hRk
  have IH := Lib.hid ih
  have H6 := Lib.hid h6
  have HI := Lib.hid hI0
  have HR := Lib.hid hR
  clear ih h6 hI0 hR hk
  unfold tv
  simp only [List.length_nil, List.length_cons, Nat.zero_add]
  simp only [List.length_cons] at hlen
  refine calls_of_wp_defers Tryz.func115 rfl ?_
  simp only [Tryz.ntmps115, List.size_toArray, List.length_cons, List.length_nil, Nat.reduceAdd, Nat.reduceSub, Array.replicate_succ, Array.replicate_zero, List.push_toArray, List.append_toArray, List.nil_append, List.cons_append]
  have HP := hp_term (fun e w' => e = .returned (.tuple #[]) ∧ (Lib.BuilderAt TW TB B b (.pointer (some ⟨b, 0, none⟩)) (bs ++ Lib.byteCells (45 :: termB t true)) w' ∧ Below B w w' ∧ Lib.OthersKept TB (some b) w w'))
  generalize hQ : bodyPostD Tryz.prog Tryz.f115 _ = Q at HP ⊢
  have HQ := Lib.hid hQ
  clear hQ
  go_upto_region 16 with (fail)
  obtain ⟨W, hW, ps, hbW⟩ := made_blk w #[.int .i64 3, .string ⟨#[]⟩, .slice A1 0 c1, .bool false, .slice A2 0 c2, .slice (some ⟨kb, ko, none⟩) 1 c3] 28
  obtain ⟨g, hg⟩ : ∃ g, g = w.heap.size := ⟨_, rfl⟩
  have HB : Hid (Lib.IsBuilder TW TB B b bs W) := Lib.hid (hW ▸ isB_alloc hIs _)
  have HK : Hid (Lib.OthersKept TB (some b) w W) := Lib.hid (hW ▸ (Lib.OthersKept.refl TB (some b) w).alloc _)
  have hBW : B ≤ W.heap.size := Nat.le_trans hBw hbW.size
  have HBW := Lib.hid (hbW.mono hBw)
  rw [← hW, ← hg]
  rw [← hg] at ps
  have hgb : g ≠ b := by
    have : b < w.heap.size := by rcases hIs with h' | h' <;> exact h'.lt
    omega
  clear hW hbW hIs hBw hg
  obtain ⟨x0, x1, x2, x3, x4, x5⟩ := ps.six
  go_upto_region 17 with (go_at_call 76; refine (wbyte_w B b bs 45 _ (by exact HB.out) (by omega) hBW).mono ?_; rintro e w1 ⟨rfl, h1, hb1, hk1⟩)
  have pg : Blk w1 g 28 #[.int .i64 3, .string ⟨#[]⟩, .slice A1 0 c1, .bool false, .slice A2 0 c2, .slice (some ⟨kb, ko, none⟩) 1 c3] := hk1 g _ ps (by simpa using hgb) (fun c fz e => by injection e with _ e _; exact absurd e (by decide))
  have hbb := HBW.out.trans hb1
  have hI1 := HI.out.under HR.out hbb
  obtain ⟨y0, y1, y2, y3, y4, y5⟩ := H6.out.keep (fun p v hp hc => (hbb.cell (by rw [hp]; exact hkB)).trans hc)
  clear x0 x1 x2 x3 x4 x5
  obtain ⟨x0, x1, x2, x3, x4, x5⟩ := pg.six
  have HI1 := Lib.hid hI1
  have H1 := Lib.hid h1
  have HBB := Lib.hid hbb
  have HK1 := Lib.hid (HK.out.trans hk1)
  have hB1 : B ≤ w1.heap.size := Nat.le_trans hBW hb1.size
  have hl1 : (bs ++ [Value.int .u8 45]).length + (termB t true).length ≤ 140737488355328 := by rw [List.length_append]; simp only [List.length_cons, List.length_nil]; omega
  clear hI1 h1 hbb hk1 hb1 ps pg
  go_wp2_with (go_at_call 115; refine (IH.out B b (bs ++ [Value.int .u8 45]) true _ R _ HI1.out HR.out (.inr H1.out) hl1 hB1).mono ?_; rintro e w2 ⟨rfl, h2, hb2, hk2⟩)
  rw [← HQ.out]
  exact ⟨_, results_no (by kernel_rfl) _ _, rfl, by simpa [Lib.byteCells, List.append_assoc] using h2, HBB.out.trans hb2, HK1.out.trans hk2⟩
end Go.Proofs.YthiadenmljbdaaaGreatDoor
end

/-
  riddleref01: Gcd: contract.
-/
import Derived.Test.YtiidghfkdjefgaaDoorRDiv
namespace Go.Proofs.YtiidghfkdjefgaaDoor
open Go.RowKit

theorem ofN_len_pos {x k : Nat} (h : (N.ofN x).length = k) (h0 : 0 < x) : 0 < k := by
  have := N.ofN_pos h0; omega
theorem ofN_len_zero {x k : Nat} (h : (N.ofN x).length = k) (h0 : x = 0) : k = 0 := by
  subst h0; rw [← h]; rfl
/-- What an inner loop keeps: a number halved while it is even, from x on. -/
def Half (x y : Nat) : Prop := ∃ k : Nat, x = 2 ^ k * y
theorem Half.refl (x : Nat) : Half x x := ⟨0, by simp⟩
theorem Half.step {x y : Nat} (h : Half x y) (he : y % 2 = 0) : Half x (y / 2) := by
  obtain ⟨k, e⟩ := h
  refine ⟨k + 1, ?_⟩
  rw [e, Nat.pow_succ, Nat.mul_assoc]
  congr 1; omega
theorem Half.pos {x y : Nat} (h : Half x y) (hx : 0 < x) : 0 < y := by
  obtain ⟨k, e⟩ := h
  rcases Nat.eq_zero_or_pos y with h0 | h0
  · rw [h0, Nat.mul_zero] at e; omega
  · exact h0
theorem Half.le {x y : Nat} (h : Half x y) : y ≤ x := by
  obtain ⟨k, e⟩ := h
  rw [e]; exact Nat.le_mul_of_pos_left _ (Nat.pow_pos (by omega))
theorem Half.odd {x y : Nat} (h : Half x y) (hx : x % 2 = 1) : y = x := by
  obtain ⟨k, e⟩ := h
  cases k with
  | zero => rw [e]; simp
  | succ k => rw [e, Nat.pow_succ, Nat.mul_assoc, Nat.mul_left_comm, Nat.mul_mod_right] at hx; omega
theorem Half.gcd {x y z : Nat} (h : Half x y) (hz : z % 2 = 1) : Nat.gcd x z = Nat.gcd y z := by
  obtain ⟨k, e⟩ := h
  induction k generalizing x with
  | zero => rw [e]; simp
  | succ k ih =>
    rw [e, Nat.pow_succ, Nat.mul_assoc, Nat.mul_left_comm, N.gcd_two_left _ _ (Nat.mul_mod_right _ _) hz, Nat.mul_div_cancel_left _ (by omega)]
    exact ih rfl
/-- The odd parts: of two numbers, one at least odd. -/
theorem gcd_odd_parts {x y x' y' : Nat} (hx : Half x x') (hy : Half y y') (ho : x % 2 = 1 ∨ y % 2 = 1) (_h1 : x' % 2 = 1) (_h2 : y' % 2 = 1) : Nat.gcd x' y' = Nat.gcd x y := by
  rcases ho with h | h
  · rw [hx.odd h, Nat.gcd_comm x y, hy.gcd h, Nat.gcd_comm]
  · rw [hy.odd h, hx.gcd h]
theorem sub_parity {x y : Nat} (_h1 : x % 2 = 1) (_h2 : y % 2 = 1) (h : y ≤ x) : Nat.gcd (x - y) y = Nat.gcd x y := (N.gcd_less x y h).symm

/-- A bare number at hand, as the reference's loops hold it. -/
def Num (w : World) (v : Value) (M x : Nat) : Prop := ∃ A n c, v = .slice A n c ∧ Sl w A n c (N.ofN x) ∧ n ≤ M
theorem Num.below {w w' : World} {v : Value} {M x : Nat} (h : Num w v M x) (hb : Below w.heap.size w w') : Num w' v M x := by
  obtain ⟨A, n, c, e, hs, hn⟩ := h
  exact ⟨A, n, c, e, hs.below hb, hn⟩
theorem num_own {w : World} {base g n c M x : Nat} (h : Own w base g n c (N.ofN x)) (hx : (N.ofN x).length ≤ M) : Num w (.slice (some ⟨g, 0, none⟩) n c) M x :=
  ⟨_, _, _, rfl, h.sl, by rw [← h.len]; exact hx⟩
/-- Its first limb's parity. -/
theorem Num.head {w : World} {v : Value} {M x : Nat} (h : Num w v M x) (h0 : 0 < x) : ∃ b o n c p, v = .slice (some ⟨b, o, none⟩) n c ∧ 0 < n ∧ w.cell? ⟨b, o, none⟩ = some (.int .u32 (p : Nat)) ∧ p < 4294967296 ∧ p % 2 = x % 2 := by
  obtain ⟨A, n, c, rfl, hs, hn⟩ := h
  have hl := ofN_len_pos hs.len h0
  obtain ⟨b, o, rfl, hc⟩ := hs.cells hl
  exact ⟨b, o, n, c, N.dg (N.ofN x) 0, rfl, hl, hc 0 hl, N.dg_lt (N.lim_ofN _) 0, N.ofN_dg0⟩
theorem rquo_num {w : World} {v : Value} {M x : Nat} (h : Num w v M x) (hM : M ≤ 4398046511104) :
    Calls Tryd.prog 93 #[v, .int .u32 2] w fun e w' => ∃ q r, e = .returned (.tuple #[q, .int .u32 r]) ∧ Num w' q M (x / 2) ∧ Below w.heap.size w w' := by
  obtain ⟨A, n, c, rfl, hs, hn⟩ := h
  refine (rquo_any w A n c _ 2 hs (by omega) (by omega) (by omega)).mono ?_
  rintro e w' ⟨g, n', c', rfl, ho, hb⟩
  rw [N.nv_ofN] at ho
  refine ⟨_, _, rfl, num_own ho ?_, hb⟩
  have h1 := N.ofN_length_mono (Nat.div_le_self x 2)
  have h2 := hs.len
  omega
theorem even_beq {p : Nat} (h : p % 2 = 0) : ((p : Int) % 2 == 0) = true := by
  have : (p : Int) % 2 = 0 := by omega
  simpa using this
theorem odd_beq {p : Nat} (h : p % 2 = 1) : ((p : Int) % 2 == 0) = false := by
  have : ¬ (p : Int) % 2 = 0 := by omega
  simpa using this
theorem pow_le_bits {t x K : Nat} (h : 2 ^ t ≤ x) (hx : x < 4294967296 ^ K) : t < 32 * K := by
  rw [show 4294967296 = 2 ^ 32 from rfl, ← Nat.pow_mul] at hx
  exact (Nat.pow_lt_pow_iff_right (a := 2) (by omega)).1 (Nat.lt_of_le_of_lt h hx)

set_option maxRecDepth 100000 in
set_option maxHeartbeats 4000000 in
theorem rgcd_pos (w : World) (A : Option Addr) (n c : Nat) (a : List Nat) (B : Option Addr) (m d : Nat) (b : List Nat) (ha : Sl w A n c a) (hb : Sl w B m d b) (hn : n ≤ 1099511627776) (hm : m ≤ 1099511627776) (M : Nat) (hnM : n ≤ M) (hmM : m ≤ M) (hM : M ≤ 1099511627776) (ha0 : 0 < N.nv a) (hb0 : 0 < N.nv b) :
    Calls Tryd.prog 77 #[.slice A n c, .slice B m d] w fun e w' => ∃ v, e = .returned v ∧ Num w' v M (Nat.gcd (N.nv a) (N.nv b)) ∧ Below w.heap.size w w' := by
  have hla := N.nv_len_le ha.lim
  rw [ha.len] at hla
  have hlb := N.nv_len_le hb.lim
  rw [hb.len] at hlb
  have hna := N.nv_lt ha.lim
  rw [ha.len] at hna
  obtain ⟨G, hG⟩ : ∃ G, Nat.gcd (N.nv a) (N.nv b) = G := ⟨_, rfl⟩
  rw [hG]
  have hGle : G ≤ N.nv a := by rw [← hG]; exact Nat.gcd_le_left _ ha0
  have hGb : G < 4294967296 ^ n := Nat.lt_of_le_of_lt hGle hna
  have hGl : (N.ofN G).length ≤ M := Nat.le_trans (N.ofN_length_le hGb) hnM
  have HGB := Lib.hid hGb
  have HG := Lib.hid hG
  clear hGle hGb hG hna
  go_enter Tryd.func77, Tryd.ntmps77
  go_wp2_with fail
  refine (rtrim_any _ A n c a ha (by omega)).mono ?_
  rintro e w1 ⟨g1, n1, c1, rfl, ho1, hb1⟩
  have hb' := hb.below hb1
  go_wp2_with fail
  refine (rtrim_any _ B m d b hb' (by omega)).mono ?_
  rintro e w2 ⟨g2, n2, c2, rfl, ho2, hb2⟩
  have ho1' := ho1.below hb2
  have hbw : Below w.heap.size w w2 := hb1.trans (hb2.mono hb1.size)
  have hx0 := num_own ho1' (M := M) (by omega)
  have hy0 := num_own ho2 (M := M) (by omega)
  have hp1 : 0 < n1 := ofN_len_pos ho1.len ha0
  have hp2 : 0 < n2 := ofN_len_pos ho2.len hb0
  have tn1 : ((n1 : Int) == 0) = false := by
    have : ¬ (n1 : Int) = 0 := by omega
    simpa using this
  have tn2 : ((n2 : Int) == 0) = false := by
    have : ¬ (n2 : Int) = 0 := by omega
    simpa using this
  clear ho1 ho2 ho1' hb1 hb2 hb' ha hb hla hlb
  obtain ⟨na, hna⟩ : ∃ na, N.nv a = na := ⟨_, rfl⟩
  obtain ⟨nb, hnb⟩ : ∃ nb, N.nv b = nb := ⟨_, rfl⟩
  have hg0 := HG.out
  rw [hna, hnb] at hg0
  rw [hna] at hx0 ha0
  rw [hnb] at hy0 hb0
  have HG0 := Lib.hid hg0
  clear hna hnb hg0 HG
  go_wp2_with fail
  go_loopg [5, 6, 7] na (fun gk v5 v6 v7 wr => ∃ (y t : Nat), v7 = .int .i64 t ∧ Num wr v5 M gk ∧ Num wr v6 M y ∧ 0 < gk ∧ 0 < y ∧ G = 2 ^ t * Nat.gcd gk y ∧ Below w.heap.size w wr)
  case atStart => exact ⟨nb, 0, rfl, hx0, hy0, ha0, hb0, by rw [← HG0.out]; simp, hbw⟩
  case round =>
    obtain ⟨x, rfl⟩ : ∃ x : Nat, x = gk := ⟨_, rfl⟩
    obtain ⟨y, t, rfl, hx, hy, hxp, hyp, hg, hbw⟩ := hrel
    have ht : t < 32 * n := pow_le_bits (x := G) (by rw [hg]; exact Nat.le_mul_of_pos_right _ (Nat.gcd_pos_of_pos_left _ hxp)) HGB.out
    have ht2 : t ≤ 35184372088832 := by omega
    have HG1 := Lib.hid hg
    clear hg hx0 hy0 HG0
    obtain ⟨bx, ox, kx, ex, px, rfl, hkx, hcx, hpx, hpar⟩ := hx.head hxp
    obtain ⟨by', oy, ky, ey, py, rfl, hky, hcy, hpy, hpary⟩ := hy.head hyp
    by_cases heven : x % 2 = 0 ∧ y % 2 = 0
    · have tx := even_beq (p := px) (by omega)
      have ty := even_beq (p := py) (by omega)
      have hstep := N.gcd_two_both x y heven.1 heven.2
      have hx2 : 0 < x / 2 := by omega
      have hy2 : 0 < y / 2 := by omega
      have HS := Lib.hid hstep
      clear hstep heven hpar hpary
      go_wp2_with fail
      refine (rquo_num hx (by omega)).mono ?_
      rintro e w3 ⟨qx, rx, rfl, hx3, hb3⟩
      have hy3 := hy.below hb3
      go_wp2_with fail
      refine (rquo_num hy3 (by omega)).mono ?_
      rintro e w4 ⟨qy, ry, rfl, hy4, hb4⟩
      go_wp2_with fail
      go_roundg (x / 2)
      case measure => omega
      case rel =>
        have hz := hbw.size
        exact ⟨y / 2, t + 1, by go_num, hx3.below hb4, hy4, hx2, hy2, by rw [HG1.out, HS.out, Nat.pow_succ, Nat.mul_assoc], hbw.trans ((hb3.trans (hb4.mono hb3.size)).mono hz)⟩
    · have hodd : x % 2 = 1 ∨ (x % 2 = 0 ∧ y % 2 = 1) := by omega
      have ho1 : x % 2 = 1 ∨ y % 2 = 1 := by omega
      obtain ⟨g, hgd⟩ : ∃ g, Nat.gcd x y = g := ⟨_, rfl⟩
      have HGD := Lib.hid hgd
      have HO1 := Lib.hid ho1
      clear heven hgd ho1
      have hg1 := HG1.out
      rw [HGD.out] at hg1
      clear HG1
      have HG1 := Lib.hid hg1
      clear hg1
      obtain ⟨W0, rfl⟩ : ∃ W0 : World, W0 = wr := ⟨_, rfl⟩
      rcases hodd with ho | ⟨ho, ho'⟩
      case' inl => have tx := odd_beq (p := px) (by omega)
      case' inr =>
        have tx := even_beq (p := px) (by omega)
        have ty := odd_beq (p := py) (by omega)
      all_goals
        clear hpar hpary
        go_wp2_with fail
        go_loopg [5, 6] (x + y) (fun gs v5 v6 wr => ∃ (x' y' : Nat), gs = x' + y' ∧ Num wr v5 M x' ∧ Num wr v6 M y' ∧ 0 < y' ∧ (x' % 2 = 1 ∨ y' % 2 = 1) ∧ Nat.gcd x' y' = g ∧ Below w.heap.size w wr)
        case atStart => exact ⟨x, y, rfl, hx, hy, hyp, HO1.out, HGD.out, hbw⟩
        case round =>
          clear hcx hcy hx hy HGD HO1
          obtain ⟨G2, rfl⟩ : ∃ G2 : Nat, G2 = gk := ⟨_, rfl⟩
          obtain ⟨x1, y1, hsum, hx1, hy1, hy1p, hodd1, hgcd1, hbw1⟩ := hrel
          have HSUM := Lib.hid hsum
          have HGC := Lib.hid hgcd1
          have HOD := Lib.hid hodd1
          clear hsum hgcd1 hodd1
          rcases Nat.eq_zero_or_pos x1 with hx0 | hx0
          · obtain ⟨A1, l1, e1, rfl, hs1, hl1⟩ := hx1
            have hl0 := ofN_len_zero hs1.len hx0
            subst hl0
            have hgy : y1 = g := by rw [← HGC.out, hx0, Nat.gcd_zero_left]
            have HGY := Lib.hid hgy
            clear hgy hx0 hs1
            obtain ⟨W1, rfl⟩ : ∃ W1 : World, W1 = wr := ⟨_, rfl⟩
            go_wp2_with fail
            go_loopw [6, 9] (fun v6 v9 wr => ∃ i : Nat, i ≤ t ∧ v9 = .int .i64 i ∧ Num wr v6 M (y1 * 2 ^ i) ∧ Below w.heap.size w wr) (fun _ v9 _ => t - (intOf v9).toNat)
            case atStart => exact ⟨0, by omega, rfl, by simpa using hy1, hbw1⟩
            case round =>
              clear hy1 hbw1
              obtain ⟨i, hi, rfl, hyi, hbwi⟩ := hrel
              by_cases hit : i < t
              · obtain ⟨A2, l2, e2, rfl, hs2, hl2⟩ := hyi
                go_wp2_with fail
                refine (rtimes_any _ A2 l2 e2 _ 2 0 _ _ rfl rfl hs2 (by omega) (by omega) (by omega)).mono ?_
                rintro e w3 ⟨g3, n3, c3, rfl, ho3, hb3⟩
                have he : N.nv (N.ofN (y1 * 2 ^ i)) * 2 + 0 = y1 * 2 ^ (i + 1) := by rw [N.nv_ofN, Nat.pow_succ, Nat.mul_assoc, Nat.add_zero]
                rw [he] at ho3
                go_wp2_with fail
                go_roundw
                case rel =>
                  refine ⟨i + 1, by omega, by go_num, num_own ho3 ?_, hbwi.trans (hb3.mono hbwi.size)⟩
                  have hle : y1 * 2 ^ (i + 1) ≤ G := by
                    rw [HG1.out, HGY.out, Nat.mul_comm]
                    exact Nat.mul_le_mul_right _ (Nat.pow_le_pow_right (by omega) (by omega))
                  exact Nat.le_trans (N.ofN_length_mono hle) hGl
                case measure => simp [intOf]; omega
              · obtain rfl : i = t := by omega
                go_wp2_with fail
                go_ret
                have he : y1 * 2 ^ i = G := by rw [HG1.out, HGY.out, Nat.mul_comm]
                rw [he] at hyi
                exact ⟨_, rfl, hyi, hbwi⟩
          · obtain ⟨A1, l1, e1, rfl, hs1, hl1⟩ := hx1
            have hl0 := ofN_len_pos hs1.len hx0
            have hx1 : Num wr (.slice A1 l1 e1) M x1 := ⟨_, _, _, rfl, hs1, hl1⟩
            clear hs1
            obtain ⟨W1, rfl⟩ : ∃ W1 : World, W1 = wr := ⟨_, rfl⟩
            have hz1 := hbw1.size
            have tl1 : decide ((l1 : Int) > 0) = true := decide_eq_true (by omega)
            have tl2 : decide (0 < (l1 : Int)) = true := decide_eq_true (by omega)
            go_wp2_with fail
            go_loopg [5] x1 (fun gx v5 wr => Num wr v5 M gx ∧ Half x1 gx ∧ Below W1.heap.size W1 wr)
            case atStart => exact ⟨hx1, Half.refl _, Below.refl _ _⟩
            case round =>
              clear hx1
              obtain ⟨x2, rfl⟩ : ∃ x2 : Nat, x2 = gk := ⟨_, rfl⟩
              obtain ⟨hx2, hhalf, hbw2⟩ := hrel
              have hx2p := hhalf.pos hx0
              obtain ⟨b2, o2, k2, e2, p2, rfl, hk2, hc2, hp2, hpar2⟩ := hx2.head hx2p
              by_cases he2 : x2 % 2 = 0
              · have t2 := even_beq (p := p2) (by omega)
                clear hpar2
                go_wp2_with fail
                refine (rquo_num hx2 (by omega)).mono ?_
                rintro e w3 ⟨qx, rx, rfl, hx3, hb3⟩
                go_wp2_with fail
                go_roundg (x2 / 2)
                case measure => omega
                case rel => exact ⟨hx3, hhalf.step he2, hbw2.trans (hb3.mono hbw2.size)⟩
              · have t2 := odd_beq (p := p2) (by omega)
                clear hpar2
                have hy2 := hy1.below hbw2
                obtain ⟨W2, rfl⟩ : ∃ W2 : World, W2 = wr := ⟨_, rfl⟩
                go_wp2_with fail
                go_loopg [6] y1 (fun gy v6 wr => Num wr v6 M gy ∧ Half y1 gy ∧ Below W2.heap.size W2 wr)
                case atStart => exact ⟨hy2, Half.refl _, Below.refl _ _⟩
                case round =>
                  clear hy2 hc2
                  obtain ⟨y3, rfl⟩ : ∃ y3 : Nat, y3 = gk := ⟨_, rfl⟩
                  obtain ⟨hy3, hhalfy, hbw3⟩ := hrel
                  have hy3p := hhalfy.pos hy1p
                  obtain ⟨b3, o3, k3, e3, p3, rfl, hk3, hc3, hp3, hpar3⟩ := hy3.head hy3p
                  by_cases he3 : y3 % 2 = 0
                  · have t3 := even_beq (p := p3) (by omega)
                    clear hpar3
                    go_wp2_with fail
                    refine (rquo_num hy3 (by omega)).mono ?_
                    rintro e w4 ⟨qx, rx, rfl, hy4, hb4⟩
                    go_wp2_with fail
                    go_roundg (y3 / 2)
                    case measure => omega
                    case rel => exact ⟨hy4, hhalfy.step he3, hbw3.trans (hb4.mono hbw3.size)⟩
                  · have t3 := odd_beq (p := p3) (by omega)
                    clear hpar3
                    have hx4 := hx2.below hbw3
                    have hgp := gcd_odd_parts hhalf hhalfy HOD.out (by omega) (by omega)
                    rw [HGC.out] at hgp
                    have HGP := Lib.hid hgp
                    clear hgp
                    have hlex := hhalf.le
                    have hley := hhalfy.le
                    have hbw4 := hbw1.trans ((hbw2.trans (hbw3.mono hbw2.size)).mono hz1)
                    obtain ⟨A4, l4, r4, e4, hs4, hl4⟩ := hx4
                    obtain ⟨A5, l5, r5, e5, hs5, hl5⟩ := hy3
                    injection e4 with e41 e42 e43
                    injection e5 with e51 e52 e53
                    subst e41 e42 e43 e51 e52 e53
                    go_wp2_with fail
                    refine (rcmp_any _ _ _ _ _ _ _ _ _ hs4 hs5 (by omega) (by omega)).mono ?_
                    rintro e w5 ⟨rfl, rfl⟩
                    rw [N.nv_ofN, N.nv_ofN]
                    by_cases hlt : x2 < y3
                    · rw [N.cmpN_lt hlt]
                      go_wp2_with fail
                      refine (rsub_any _ _ _ _ _ _ _ _ _ hs5 hs4 (by omega) (by omega) (by rw [N.nv_ofN, N.nv_ofN]; omega)).mono ?_
                      rintro e w6 ⟨g6, n6, c6, rfl, ho6, hb6⟩
                      rw [N.nv_ofN, N.nv_ofN] at ho6
                      go_wp2_with fail
                      go_roundg (y3 - x2 + x2)
                      case measure => have := HSUM.out; omega
                      case rel =>
                        have hlen : (N.ofN (y3 - x2)).length ≤ M := by
                          have h1 := N.ofN_length_mono (Nat.sub_le y3 x2)
                          have h2 := hs5.len
                          omega
                        refine ⟨y3 - x2, x2, rfl, num_own ho6 hlen, ⟨_, _, _, rfl, hs4.below hb6, hl4⟩, hx2p, .inr (by omega), ?_, hbw4.trans (hb6.mono hbw4.size)⟩
                        rw [sub_parity (by omega) (by omega) (by omega), Nat.gcd_comm]; exact HGP.out
                    · have tc := (geq_cmp (x := x2) (y := y3) (by omega)).2
                      have tc2 : decide (N.cmpN x2 y3 < 0) = false := by
                        rcases N.cmpN_cases x2 y3 with ⟨h1, e⟩ | ⟨h1, e⟩ | ⟨h1, e⟩
                        · omega
                        · rw [e]; rfl
                        · rw [e]; rfl
                      go_wp2_with fail
                      refine (rsub_any _ _ _ _ _ _ _ _ _ hs4 hs5 (by omega) (by omega) (by rw [N.nv_ofN, N.nv_ofN]; omega)).mono ?_
                      rintro e w6 ⟨g6, n6, c6, rfl, ho6, hb6⟩
                      rw [N.nv_ofN, N.nv_ofN] at ho6
                      go_wp2_with fail
                      go_roundg (x2 - y3 + y3)
                      case measure => have := HSUM.out; omega
                      case rel =>
                        have hlen : (N.ofN (x2 - y3)).length ≤ M := by
                          have h1 := N.ofN_length_mono (Nat.sub_le x2 y3)
                          have h2 := hs4.len
                          omega
                        refine ⟨x2 - y3, y3, rfl, num_own ho6 hlen, ⟨_, _, _, rfl, hs5.below hb6, hl5⟩, hy3p, .inr (by omega), ?_, hbw4.trans (hb6.mono hbw4.size)⟩
                        rw [sub_parity (by omega) (by omega) (by omega)]; exact HGP.out

set_option maxRecDepth 100000 in
set_option maxHeartbeats 4000000 in
theorem rgcd_any (w : World) (A : Option Addr) (n c : Nat) (a : List Nat) (B : Option Addr) (m d : Nat) (b : List Nat) (ha : Sl w A n c a) (hb : Sl w B m d b) (hn : n ≤ 1099511627776) (hm : m ≤ 1099511627776) (M : Nat) (hnM : n ≤ M) (hmM : m ≤ M) (hM : M ≤ 1099511627776) :
    Calls Tryd.prog 77 #[.slice A n c, .slice B m d] w fun e w' => ∃ v, e = .returned v ∧ Num w' v M (Nat.gcd (N.nv a) (N.nv b)) ∧ Below w.heap.size w w' := by
  by_cases h0 : 0 < N.nv a ∧ 0 < N.nv b
  · exact rgcd_pos w A n c a B m d b ha hb hn hm M hnM hmM hM h0.1 h0.2
  have hla := N.nv_len_le ha.lim
  rw [ha.len] at hla
  have hlb := N.nv_len_le hb.lim
  rw [hb.len] at hlb
  go_enter Tryd.func77, Tryd.ntmps77
  go_wp2_with fail
  refine (rtrim_any _ A n c a ha (by omega)).mono ?_
  rintro e w1 ⟨g1, n1, c1, rfl, ho1, hb1⟩
  have hb' := hb.below hb1
  go_wp2_with fail
  refine (rtrim_any _ B m d b hb' (by omega)).mono ?_
  rintro e w2 ⟨g2, n2, c2, rfl, ho2, hb2⟩
  have ho1' := ho1.below hb2
  have hbw : Below w.heap.size w w2 := hb1.trans (hb2.mono hb1.size)
  have hx0 := num_own ho1' (M := M) (by omega)
  have hy0 := num_own ho2 (M := M) (by omega)
  have hl1 := ho1.len
  have hl2 := ho2.len
  clear ho1 ho2 ho1' hb1 hb2 hb' ha hb hla hlb
  rcases Nat.eq_zero_or_pos (N.nv a) with hz | hz
  · have h1 := ofN_len_zero hl1 hz
    subst h1
    have HZ := Lib.hid hz
    clear h0 hl1 hl2 hz
    go_wp2_with fail
    go_ret
    refine ⟨_, rfl, ?_, hbw⟩
    rw [HZ.out, Nat.gcd_zero_left]; exact hy0
  · have hz2 : N.nv b = 0 := by omega
    have h1 := ofN_len_pos hl1 hz
    have h2 := ofN_len_zero hl2 hz2
    subst h2
    have HZ := Lib.hid hz2
    have tn1 : ((n1 : Int) == 0) = false := by
      have : ¬ (n1 : Int) = 0 := by omega
      simpa using this
    clear h0 hl1 hl2 hz hz2
    go_wp2_with fail
    go_ret
    refine ⟨_, rfl, ?_, hbw⟩
    rw [HZ.out, Nat.gcd_zero_right]; exact hx0

end Go.Proofs.YtiidghfkdjefgaaDoor

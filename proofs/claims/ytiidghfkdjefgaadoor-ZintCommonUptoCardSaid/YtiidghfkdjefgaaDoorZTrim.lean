/-
  zint.trim: contract. Numbers with a sign.
-/
import Derived.Test.YtiidghfkdjefgaaDoorRGcd
import Derived.Test.YtiidghfkdjefgaaDoorShelf
namespace Go.Proofs.YtiidghfkdjefgaaDoor
open Go.RowKit

/-- A slice's address is a plain one (that of a slice of no elements too). -/
def Pl (A : Option Addr) : Prop := A = none ∨ ∃ b o, A = some ⟨b, o, none⟩
/-- v is a slice that reads as limbs of the number x, at most K of them. -/
def Mag (w : World) (v : Value) (K x : Nat) : Prop := ∃ A n c l, v = .slice A n c ∧ Pl A ∧ Sl w A n c l ∧ N.nv l = x ∧ n ≤ K
/-- The same of the bare list. -/
def Bag (w : World) (v : Value) (K x : Nat) : Prop := ∃ A n c, v = .slice A n c ∧ Pl A ∧ Sl w A n c (N.ofN x) ∧ n ≤ K
section
variable {w w' : World} {v : Value} {K x : Nat}
theorem Mag.below (h : Mag w v K x) (hb : Below w.heap.size w w') : Mag w' v K x := by
  obtain ⟨A, n, c, l, e, hp, hs, hx, hn⟩ := h
  exact ⟨A, n, c, l, e, hp, hs.below hb, hx, hn⟩
theorem Bag.below (h : Bag w v K x) (hb : Below w.heap.size w w') : Bag w' v K x := by
  obtain ⟨A, n, c, e, hp, hs, hn⟩ := h
  exact ⟨A, n, c, e, hp, hs.below hb, hn⟩
theorem Bag.mag (h : Bag w v K x) : Mag w v K x := by
  obtain ⟨A, n, c, e, hp, hs, hn⟩ := h
  exact ⟨A, n, c, _, e, hp, hs, N.nv_ofN x, hn⟩
theorem Mag.val (h : Mag w v K x) : Val w v K x := by
  obtain ⟨A, n, c, l, e, _, hs, hx, hn⟩ := h
  exact ⟨A, n, c, l, e, hs, hx, hn⟩
theorem Bag.bar (h : Bag w v K x) : Bar w v K x := by
  obtain ⟨A, n, c, e, _, hs, hn⟩ := h
  exact ⟨A, n, c, e, hs, hn⟩
theorem Fre.bag (h : Fre w w' v K x) : Bag w' v K x := by
  obtain ⟨g, n, c, e, ho, hn⟩ := h
  exact ⟨_, n, c, e, .inr ⟨g, 0, rfl⟩, ho.sl, hn⟩
end
theorem own_bag {w : World} {base g n c K x : Nat} (h : Own w base g n c (N.ofN x)) (hx : (N.ofN x).length ≤ K) : Bag w (.slice (some ⟨g, 0, none⟩) n c) K x :=
  ⟨_, _, _, rfl, .inr ⟨g, 0, rfl⟩, h.sl, by rw [← h.len]; exact hx⟩
/-- A row of the call's own, of some capacity, reads as its limbs. -/
theorem row_sl {w : World} {base n : Nat} {v : Value} {l : List Nat} (h : w.ownsRow base 65 1 v n (lv l)) (hne : v ≠ .slice none 0 0) (hl : N.Lim l) : ∃ g c, v = .slice (some ⟨g, 0, none⟩) n c ∧ Sl w (some ⟨g, 0, none⟩) n c l := by
  have h1 := h.1
  rw [lv_length] at h1
  rcases h.2 with ⟨rfl, _⟩ | ⟨g, cap, cur, rfl, _, _, hle, _⟩
  · exact absurd rfl hne
  · refine ⟨g, cap, rfl, by omega, hle, hl, fun _ => ⟨g, 0, rfl, fun k hk => ?_⟩⟩
    rw [Nat.zero_add, h.cellAt k (by omega), lv_get l k (by omega)]
theorem size_u32 (w : World) : (Go.sizeOf 65).run Tryd.prog w = .ok 1 w := by
  obtain ⟨i0, hi, _, hz1, _⟩ := info_parts info_u32
  simp [sizeOf, typeInfo, hi, hz1]
set_option maxRecDepth 100000 in
/-- slices.Clone of limbs. -/
theorem clone_any (w : World) (A : Option Addr) (n c : Nat) (l : List Nat) (hp : Pl A) (h : Sl w A n c l) (hn : n ≤ 35184372088832) :
    Calls Tryd.prog 89 #[.slice A n c] w fun e w' => ∃ B d, e = .returned (.slice B n d) ∧ Pl B ∧ Sl w' B n d l ∧ Below w.heap.size w w' := by
  obtain ⟨i0, hi, hz0, hz1, hz2⟩ := info_parts info_u32
  rcases hp with rfl | ⟨b, o, rfl⟩
  · have hn0 : n = 0 := by
      rcases Nat.eq_zero_or_pos n with h0 | h0
      · exact h0
      · obtain ⟨b, o, e, _⟩ := h.cells h0
        cases e
    subst hn0
    have hl0 : l = [] := List.eq_nil_of_length_eq_zero h.len
    subst hl0
    refine (Go.Proofs.Tryd.slices_Clone_nil 0 c w).mono ?_
    rintro e w' ⟨rfl, rfl⟩
    exact ⟨none, 0, rfl, .inl rfl, Sl.nil _ _ _, Below.refl _ _⟩
  · refine (Go.Proofs.Tryd.slices_Clone i0 (.int .u32 0) 1 4 hi hz0 hz1 hz2 rfl (by omega) size_u32 b o n c (lv l) w (by rw [lv_length, h.len, Nat.mul_one]) (by unfold maxLen; omega) (by omega) (fun j u hu => ?_) (lv_oneCell l)).mono ?_
    · have hj : j < l.length := by have := (List.getElem?_eq_some_iff.1 hu).1; rwa [lv_length] at this
      have hlen := h.len
      obtain ⟨b', o', e, hc⟩ := h.cells (by omega)
      injection e with e; injection e with e1 e2 _
      subst e1; subst e2
      rw [hc j (by omega)]
      rw [lv_get l j hj] at hu
      exact hu
    · rintro e w' ⟨v', rfl, hr, hne, hb⟩
      obtain ⟨g, d, rfl, hs⟩ := row_sl hr hne h.lim
      exact ⟨_, d, rfl, .inr ⟨g, 0, rfl⟩, hs, hb⟩

/-- A slice value's length. -/
def lenV : Value → Nat
  | .slice _ n _ => n
  | _ => 0

set_option maxRecDepth 100000 in
set_option maxHeartbeats 800000 in
theorem ztrim_any (w : World) (A : Option Addr) (n c : Nat) (l : List Nat) (hp : Pl A) (h : Sl w A n c l) (hn : n ≤ 35184372088832) :
    Calls Tryd.prog 59 #[.slice A n c] w fun e w' => ∃ v, e = .returned v ∧ Bag w' v n (N.nv l) ∧ Below w.heap.size w w' := by
  have hcap := h.cap
  have hlen := h.len
  have HLEN := Lib.hid hlen
  clear hlen
  go_enter Tryd.func59, Tryd.ntmps59
  go_wp2_with fail
  go_loop [0] (fun v => ∃ k d : Nat, k ≤ n ∧ k ≤ d ∧ v = .slice A k d ∧ ∀ j, k ≤ j → j < n → N.dg l j = 0) (fun v => lenV v)
  case atStart => exact ⟨n, c, Nat.le_refl _, hcap, rfl, fun j h1 h2 => by omega⟩
  case round =>
    obtain ⟨k, d, hk, hkd, rfl, hz⟩ := hrel
    have HZ := Lib.hid hz
    clear hz
    by_cases hk0 : k = 0
    · subst hk0
      have e : l.take 0 = N.ofN (N.nv l) := N.take_bare h.lim (by omega) (fun j h1 h2 => HZ.out j h1 (by rw [HLEN.out] at h2; exact h2)) (.inl rfl)
      have E := Lib.hid e
      clear e
      go_wp2_with fail
      refine (clone_any w A 0 d (l.take 0) hp ⟨by simp, hkd, N.Lim.nil, fun h => absurd h (by omega)⟩ (by omega)).mono ?_
      rintro e w1 ⟨B, c1, rfl, hB, hs1, hb1⟩
      rw [E.out] at hs1
      go_wp2_with fail
      go_ret
      exact ⟨_, rfl, ⟨_, _, _, rfl, hB, hs1, by omega⟩, hb1⟩
    · obtain ⟨b, o, rfl, hc⟩ := h.cells (by omega)
      have hck := hc (k - 1) (by omega)
      clear hc
      by_cases hd : N.dg l (k - 1) = 0
      · have ht : ((N.dg l (k - 1) : Int) == 0) = true := by simpa using hd
        have HD := Lib.hid hd
        clear hd
        go_wp2_with fail
        go_round
        case rel =>
          refine ⟨k - 1, d, by omega, by omega, by go_num, fun j h1 h2 => ?_⟩
          rcases Nat.lt_or_ge j k with h3 | h3
          · obtain rfl : j = k - 1 := by omega
            exact HD.out
          · exact HZ.out j h3 h2
        case measure => simp [lenV]; omega
      · have ht : ((N.dg l (k - 1) : Int) == 0) = false := by simpa using hd
        have e : l.take k = N.ofN (N.nv l) := N.take_bare h.lim (by rw [HLEN.out]; exact hk) (fun j h1 h2 => HZ.out j h1 (by rw [HLEN.out] at h2; exact h2)) (.inr hd)
        have E := Lib.hid e
        have hsk := h.take hk
        have hsk2 : Sl w (some ⟨b, o, none⟩) k d (l.take k) := ⟨hsk.len, hkd, hsk.lim, hsk.cells⟩
        clear e hd hsk
        go_wp2_with fail
        refine (clone_any w _ k d (l.take k) hp hsk2 (by omega)).mono ?_
        rintro e w1 ⟨B, c1, rfl, hB, hs1, hb1⟩
        rw [E.out] at hs1
        go_wp2_with fail
        go_ret
        exact ⟨_, rfl, ⟨_, _, _, rfl, hB, hs1, hk⟩, hb1⟩
end Go.Proofs.YtiidghfkdjefgaaDoor

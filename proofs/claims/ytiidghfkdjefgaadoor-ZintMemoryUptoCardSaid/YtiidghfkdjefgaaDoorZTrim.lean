/-
  zint.trim: contract. Numbers with a sign.
-/
import Derived.Test.YtiidghfkdjefgaaDoorRGcd
import Derived.Test.YtiidghfkdjefgaaDoorShelf
namespace Go.Proofs.YtiidghfkdjefgaaDoor
open Go.RowKit

/-- (Nothing is asked of a slice's address.) -/
def Pl (_ : Option Addr) : Prop := True
theorem Pl.any (A : Option Addr) : Pl A := trivial
/-- v is a list of limbs in memory made since base: every cell of its block holds a limb. -/
def NwS (base : Nat) (w : World) (v : Value) : Prop := v = .slice none 0 0 ∨
  ∃ (g n c : Nat) (cs : Array Value), v = .slice (some ⟨g, 0, none⟩) n c ∧ base ≤ g ∧ n ≤ c ∧ c ≤ maxLen ∧ w.heap[g]? = some (.cells cs 65 (0, 0)) ∧ c ≤ cs.size ∧ ∀ u ∈ cs.toList, ∃ z : Int, u = .int .u32 z
theorem NwS.nil (base : Nat) (w : World) : NwS base w (.slice none 0 0) := .inl rfl
theorem NwS.le {base base' : Nat} {w : World} {v : Value} (h : NwS base w v) (hb : base' ≤ base) : NwS base' w v := by
  rcases h with h | ⟨g, n, c, cs, e, h1, h2⟩
  · exact .inl h
  · exact .inr ⟨g, n, c, cs, e, Nat.le_trans hb h1, h2⟩
theorem NwS.below {base : Nat} {w w' : World} {v : Value} (h : NwS base w v) (hb : Below w.heap.size w w') : NwS base w' v := by
  rcases h with h | ⟨g, n, c, cs, e, h1, h2, h3, h4, h5⟩
  · exact .inl h
  · exact .inr ⟨g, n, c, cs, e, h1, h2, h3, (hb.block g (Array.getElem?_eq_some_iff.1 h4).1).trans h4, h5⟩
theorem NwS.at {base : Nat} {w w' : World} {v : Value} (h : NwS base w v) (hk : ∀ (g : Nat) (cs : Array Value), w.heap[g]? = some (.cells cs 65 (0, 0)) → (∀ u ∈ cs.toList, ∃ z : Int, u = .int .u32 z) → w'.heap[g]? = w.heap[g]?) : NwS base w' v := by
  rcases h with h | ⟨g, n, c, cs, e, h1, h2, h3, h4, h5, h6⟩
  · exact .inl h
  · exact .inr ⟨g, n, c, cs, e, h1, h2, h3, (hk g cs h4 h6).trans h4, h5, h6⟩
theorem Own.nw {w : World} {base g n c : Nat} {l : List Nat} (h : Own w base g n c l) : NwS base w (.slice (some ⟨g, 0, none⟩) n c) := by
  rcases h.own.2 with ⟨h0, _⟩ | ⟨g', cap, cur, h0, hb, hg, hle, hm, hsz, _⟩
  · cases h0
  · injection h0 with h0 _ h2
    injection h0 with h0
    injection h0 with h0
    subst h0; subst h2
    exact .inr ⟨g, n, c, cur, rfl, hb, hle, hm, hg, by omega, ints_of_full hg h.full (by omega)⟩
/-- v is a slice that reads as limbs of the number x, at most K of them. -/
def Mag (w : World) (v : Value) (K x : Nat) : Prop := ∃ A n c l, v = .slice A n c ∧ Pl A ∧ Sl w A n c l ∧ N.nv l = x ∧ n ≤ K
/-- The same of the bare list. -/
def Bag (w : World) (v : Value) (K x : Nat) : Prop := ∃ A n c, v = .slice A n c ∧ Pl A ∧ Sl w A n c (N.ofN x) ∧ n ≤ K
section
variable {w w' : World} {v : Value} {K x : Nat}
theorem Mag.below (h : Mag w v K x) (hb : Below w.heap.size w w') : Mag w' v K x := by
  obtain ⟨A, n, c, l, e, hp, hs, hx, hn⟩ := h
  exact ⟨A, n, c, l, e, hp, hs.below hb, hx, hn⟩
theorem Bag.below (h : Bag w v K x) (hb : Below w.heap.size w w') : Bag w' v K x := by
  obtain ⟨A, n, c, e, hp, hs, hn⟩ := h
  exact ⟨A, n, c, e, hp, hs.below hb, hn⟩
theorem Bag.mag (h : Bag w v K x) : Mag w v K x := by
  obtain ⟨A, n, c, e, hp, hs, hn⟩ := h
  exact ⟨A, n, c, _, e, hp, hs, N.nv_ofN x, hn⟩
theorem Mag.val (h : Mag w v K x) : Val w v K x := by
  obtain ⟨A, n, c, l, e, _, hs, hx, hn⟩ := h
  exact ⟨A, n, c, l, e, hs, hx, hn⟩
theorem Bag.bar (h : Bag w v K x) : Bar w v K x := by
  obtain ⟨A, n, c, e, _, hs, hn⟩ := h
  exact ⟨A, n, c, e, hs, hn⟩
theorem Fre.bag (h : Fre w w' v K x) : Bag w' v K x := by
  obtain ⟨g, n, c, e, ho, hn⟩ := h
  exact ⟨_, n, c, e, Pl.any _, ho.sl, hn⟩
end
theorem own_bag {w : World} {base g n c K x : Nat} (h : Own w base g n c (N.ofN x)) (hx : (N.ofN x).length ≤ K) : Bag w (.slice (some ⟨g, 0, none⟩) n c) K x :=
  ⟨_, _, _, rfl, Pl.any _, h.sl, by rw [← h.len]; exact hx⟩
set_option maxRecDepth 100000 in
set_option maxHeartbeats 800000 in
/-- slices.Clone of limbs. -/
theorem clone_any (w : World) (A : Option Addr) (n c : Nat) (l : List Nat) (h : Sl w A n c l) (hn : n ≤ 35184372088832) :
    Calls Tryd.prog 89 #[.slice A n c] w fun e w' => ∃ B d, e = .returned (.slice B n d) ∧ Sl w' B n d l ∧ Below w.heap.size w w' ∧ NwS w.heap.size w' (.slice B n d) := by
  obtain ⟨i0, hi, hz0, hz1, hz2⟩ := info_parts info_u32
  rcases A with _ | a
  · have hn0 : n = 0 := by
      rcases Nat.eq_zero_or_pos n with h0 | h0
      · exact h0
      · obtain ⟨b, o, e, _⟩ := h.cells h0
        cases e
    subst hn0
    have hl0 : l = [] := List.eq_nil_of_length_eq_zero h.len
    subst hl0
    refine (Go.Proofs.Tryd.slices_Clone_nil 0 c w).mono ?_
    rintro e w' ⟨rfl, rfl⟩
    exact ⟨none, 0, rfl, Sl.nil _ _ _, Below.refl _ _, NwS.nil _ _⟩
  · have hlen := h.len
    have hlim := h.lim
    have hB : Below w.heap.size w (w.alloc (.cells #[] 65)) := (Below.refl _ _).alloc (Nat.le_refl _) _
    have hown : Own (w.alloc (.cells #[] 65)) w.heap.size w.heap.size 0 0 [] := Own.empty w
    have hn1 := (h.below hB).news
    have hm1 : 0 + n ≤ 35184372088832 := by omega
    clear h
    have q22 : ∀ (w : World) (a : Option Addr) (n c n' c' : Nat), (binOp .eql 22 (.slice a n c) (.slice none n' c')).run Tryd.prog w = .ok (.bool a.isNone) w := fun w a n c n' c' => Lib.run_eql_slice_nil w _ _ a n c n' c' Tryd.underlying22
    go_enter Tryd.func89, Tryd.ntmps89
    go_wp2_with (at_builtin; refine wpList_append_lim _ rfl (.tmp 5) (.tmp 6) 22 rfl w.heap.size i0 Tryd.underlying22 hi hz0 hz1 hz2 _ _ _ _ rfl hown _ _ _ l rfl hlen hlim hn1 hm1 (by simp) _ (Nat.zero_add _) _ (List.nil_append _) ?_; intro g cap w1 hown' hgrow)
    have hb1 : Below w.heap.size w _ := hB.grown (by assumption) (by simp) (by intro k hk; simp at hk; omega)
    go_ret
    exact ⟨_, _, rfl, Own.sl (by assumption), hb1, Own.nw (by assumption)⟩

/-- A slice value's length. -/
def lenV : Value → Nat
  | .slice _ n _ => n
  | _ => 0

set_option maxRecDepth 100000 in
set_option maxHeartbeats 800000 in
theorem ztrim_any (w : World) (A : Option Addr) (n c : Nat) (l : List Nat) (h : Sl w A n c l) (hn : n ≤ 35184372088832) :
    Calls Tryd.prog 59 #[.slice A n c] w fun e w' => ∃ v, e = .returned v ∧ Bag w' v n (N.nv l) ∧ Below w.heap.size w w' ∧ NwS w.heap.size w' v := by
  have hcap := h.cap
  have hlen := h.len
  have HLEN := Lib.hid hlen
  clear hlen
  go_enter Tryd.func59, Tryd.ntmps59
  go_wp2_with fail
  go_loop [0] (fun v => ∃ k d : Nat, k ≤ n ∧ k ≤ d ∧ v = .slice A k d ∧ ∀ j, k ≤ j → j < n → N.dg l j = 0) (fun v => lenV v)
  case atStart => exact ⟨n, c, Nat.le_refl _, hcap, rfl, fun j h1 h2 => by omega⟩
  case round =>
    obtain ⟨k, d, hk, hkd, rfl, hz⟩ := hrel
    have HZ := Lib.hid hz
    clear hz
    by_cases hk0 : k = 0
    · subst hk0
      have e : l.take 0 = N.ofN (N.nv l) := N.take_bare h.lim (by omega) (fun j h1 h2 => HZ.out j h1 (by rw [HLEN.out] at h2; exact h2)) (.inl rfl)
      have E := Lib.hid e
      clear e
      go_wp2_with fail
      refine (clone_any w A 0 d (l.take 0) ⟨by simp, hkd, N.Lim.nil, fun h => absurd h (by omega)⟩ (by omega)).mono ?_
      rintro e w1 ⟨B, c1, rfl, hs1, hb1, hn1⟩
      rw [E.out] at hs1
      go_wp2_with fail
      go_ret
      exact ⟨_, rfl, ⟨_, _, _, rfl, Pl.any _, hs1, by omega⟩, hb1, hn1⟩
    · obtain ⟨b, o, rfl, hc⟩ := h.cells (by omega)
      have hck := hc (k - 1) (by omega)
      clear hc
      by_cases hd : N.dg l (k - 1) = 0
      · have ht : ((N.dg l (k - 1) : Int) == 0) = true := by simpa using hd
        have HD := Lib.hid hd
        clear hd
        go_wp2_with fail
        go_round
        case rel =>
          refine ⟨k - 1, d, by omega, by omega, by go_num, fun j h1 h2 => ?_⟩
          rcases Nat.lt_or_ge j k with h3 | h3
          · obtain rfl : j = k - 1 := by omega
            exact HD.out
          · exact HZ.out j h3 h2
        case measure => simp [lenV]; omega
      · have ht : ((N.dg l (k - 1) : Int) == 0) = false := by simpa using hd
        have e : l.take k = N.ofN (N.nv l) := N.take_bare h.lim (by rw [HLEN.out]; exact hk) (fun j h1 h2 => HZ.out j h1 (by rw [HLEN.out] at h2; exact h2)) (.inr hd)
        have E := Lib.hid e
        have hsk := h.take hk
        have hsk2 : Sl w (some ⟨b, o, none⟩) k d (l.take k) := ⟨hsk.len, hkd, hsk.lim, hsk.cells⟩
        clear e hd hsk
        go_wp2_with fail
        refine (clone_any w _ k d (l.take k) hsk2 (by omega)).mono ?_
        rintro e w1 ⟨B, c1, rfl, hs1, hb1, hn1⟩
        rw [E.out] at hs1
        go_wp2_with fail
        go_ret
        exact ⟨_, rfl, ⟨_, _, _, rfl, Pl.any _, hs1, hk⟩, hb1, hn1⟩
end Go.Proofs.YtiidghfkdjefgaaDoor

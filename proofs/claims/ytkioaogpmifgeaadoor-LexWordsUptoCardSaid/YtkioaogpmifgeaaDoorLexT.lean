/-
  riddlelaw03.spoil: it writes into its words' own blocks.
-/
import Derived.Test.YtkioaogpmifgeaaDoorLexS
namespace Go.Proofs.YtkioaogpmifgeaaDoor
open Go.RowKit

/-- A list that may be written over: none, or all of a block of limbs among the blocks from base to lim. -/
def Wr (w : World) (base lim : Nat) (m : Value) : Prop := m = .slice none 0 0 ∨ ∃ g2 n2 c2 cs, m = .slice (some ⟨g2, 0, none⟩) n2 c2 ∧ n2 ≤ c2 ∧ c2 ≤ maxLen ∧ (base ≤ g2 ∧ g2 < lim) ∧ w.heap[g2]? = some (.cells cs 54 (0, 0)) ∧ c2 ≤ cs.size ∧ ∀ u ∈ cs.toList, ∃ z : Int, u = .int .u32 z
/-- A row of words that may be written over. -/
def Sp (w : World) (base lim g cap : Nat) : Prop := (base ≤ g ∧ g < lim) ∧ ∃ cur, Blk w g 44 cur ∧ cur.size = cap * 5 ∧ ∀ i, i < cap → ∃ m, cur[i * 5 + 3]? = some m ∧ Wr w base lim m
/-- Rows of limbs stay rows of limbs. -/
def KeepU (w w' : World) : Prop := ∀ (g : Nat) (cs : Array Value), w.heap[g]? = some (.cells cs 54 (0, 0)) → (∀ u ∈ cs.toList, ∃ z : Int, u = .int .u32 z) → ∃ cs' : Array Value, w'.heap[g]? = some (.cells cs' 54 (0, 0)) ∧ cs'.size = cs.size ∧ ∀ u ∈ cs'.toList, ∃ z : Int, u = .int .u32 z
theorem Wr.at {w w' : World} {base lim : Nat} {m : Value} (h : Wr w base lim m) (hk : KeepU w w') : Wr w' base lim m := by
  rcases h with h | ⟨g2, n2, c2, cs, e, h1, h2, h3, h4, h5, h6⟩
  · exact .inl h
  · obtain ⟨cs', k1, k2, k3⟩ := hk g2 cs h4 h6
    exact .inr ⟨g2, n2, c2, cs', e, h1, h2, h3, k1, by omega, k3⟩
theorem blk_ne {w : World} {b b' : Nat} {t t' : TypeId} {cs cs' : Array Value} (h : Blk w b t cs) (h' : Blk w b' t' cs') (ht : t ≠ t') : b ≠ b' := fun e => by
  subst e
  have e2 := h.symm.trans h'
  injection e2 with e2
  injection e2 with _ e2 _
  exact ht e2
theorem Sp.at {w w' : World} {base lim g cap : Nat} (h : Sp w base lim g cap) (hg : w'.heap[g]? = w.heap[g]?) (hk : KeepU w w') : Sp w' base lim g cap := by
  obtain ⟨h0, cur, h1, h2, h3⟩ := h
  exact ⟨h0, cur, hg.trans h1, h2, fun i hi => by obtain ⟨m, a, b⟩ := h3 i hi; exact ⟨m, a, b.at hk⟩⟩
/-- One word is written over. -/
theorem Sp.put {w : World} {base lim g cap : Nat} (h : Sp w base lim g cap) (k : Nat) (u0 u1 u2 u4 : Value) : Sp (((((w.setCell ⟨g, k * 5, none⟩ u0).setCell ⟨g, k * 5 + 1, none⟩ u1).setCell ⟨g, k * 5 + 2, none⟩ u2).setCell ⟨g, k * 5 + 3, none⟩ (.slice none 0 0)).setCell ⟨g, k * 5 + 4, none⟩ u4) base lim g cap := by
  obtain ⟨h0, cur, h1, h2, h3⟩ := h
  refine ⟨h0, _, ((((h1.put (k * 5) u0).put (k * 5 + 1) u1).put (k * 5 + 2) u2).put (k * 5 + 3) (.slice none 0 0)).put (k * 5 + 4) u4, by simp [h2], fun i hi => ?_⟩
  have hk : KeepU w (((((w.setCell ⟨g, k * 5, none⟩ u0).setCell ⟨g, k * 5 + 1, none⟩ u1).setCell ⟨g, k * 5 + 2, none⟩ u2).setCell ⟨g, k * 5 + 3, none⟩ (.slice none 0 0)).setCell ⟨g, k * 5 + 4, none⟩ u4) := fun g2 cs hg hu => by
    have hne : g2 ≠ g := blk_ne (show Blk w g2 _ cs from hg) h1 (by decide)
    exact ⟨cs, ((((((show Blk w g2 54 cs from hg).far hne (k * 5) u0).far hne (k * 5 + 1) u1).far hne (k * 5 + 2) u2).far hne (k * 5 + 3) (.slice none 0 0)).far hne (k * 5 + 4) u4), rfl, hu⟩
  by_cases hik : i = k
  · subst hik
    refine ⟨.slice none 0 0, ?_, .inl rfl⟩
    rw [Array.getElem?_setIfInBounds_ne (by omega), Array.getElem?_setIfInBounds_self_of_lt (by simp [h2]; omega)]
  · obtain ⟨m, a, b⟩ := h3 i hi
    refine ⟨m, ?_, b.at hk⟩
    rw [Array.getElem?_setIfInBounds_ne (by omega), Array.getElem?_setIfInBounds_ne (by omega), Array.getElem?_setIfInBounds_ne (by omega), Array.getElem?_setIfInBounds_ne (by omega), Array.getElem?_setIfInBounds_ne (by omega)]
    exact a
theorem MagOf.wr {wa w : World} {base : Nat} {m : Value} {k : Nat} {l : List UInt8} (h : MagOf base wa m k l) (hb : Below wa.heap.size wa w) : Wr w base wa.heap.size m := by
  unfold MagOf at h
  split at h
  · obtain ⟨g, n, c, rfl, ho⟩ := h
    rcases ho.own.2 with ⟨e, _⟩ | ⟨g', cap, cur, e, hbg, hg, hle, hm, hsz, _⟩
    · cases e
    · injection e with e1 _ e2
      injection e1 with e1
      injection e1 with e1
      subst e1; subst e2
      have hlt := (Array.getElem?_eq_some_iff.1 hg).1
      exact .inr ⟨g, n, c, cur, rfl, hle, hm, ⟨hbg, hlt⟩, (hb.block g hlt).trans hg, by omega, ints_of_full hg ho.full (by omega)⟩
  · exact .inl h
theorem OutT.sp {wa w : World} {base g n cap : Nat} {rs : List Tk} {l : List UInt8} {ps : List (Nat × Nat × Nat)} (hown : OutT wa base (.slice (some ⟨g, 0, none⟩) n cap) rs) (htk : Toks wa base l rs ps) (hb : Below wa.heap.size wa w) : Sp w base wa.heap.size g cap ∧ n ≤ cap ∧ cap ≤ maxLen := by
  rcases hown with ⟨e, _⟩ | ⟨g', cap', cur, e, hbg, hg, hle, hm, hc⟩
  · cases e
  · injection e with e1 e2 e3
    injection e1 with e1
    injection e1 with e1
    subst e1; subst e2; subst e3
    have hlt := (Array.getElem?_eq_some_iff.1 hg).1
    refine ⟨⟨⟨hbg, hlt⟩, cur, (hb.block g hlt).trans hg, OutT.size hc hle hg, fun i hi => ?_⟩, hle, hm⟩
    rcases Nat.lt_or_ge i rs.length with h1 | h1
    · refine ⟨(rs.getD i tk0).2.2.1, ?_, ?_⟩
      · rw [← Array.getElem?_toList, hc, List.getElem?_append_left (by rw [tcs_length]; omega), tcs_get _ _ _ h1 (by omega)]; rfl
      · obtain ⟨_, _, _, hmag⟩ := htk.2 i (by rw [← htk.1]; exact h1)
        exact hmag.wr hb
    · refine ⟨.slice none 0 0, ?_, .inl rfl⟩
      rw [← Array.getElem?_toList, hc, List.getElem?_append_right (by rw [tcs_length]; omega), tcs_length, zs_get _ _ (by omega), show (i * 5 + 3 - rs.length * 5) % 5 = 3 by omega]
      rfl
theorem KeepU.of_fr {w w' : World} {g2 : Nat} {cs cs' : Array Value} (hf : Fr w w' (fun b => b = g2)) (h0 : w.heap[g2]? = some (.cells cs 54 (0, 0))) (h : w'.heap[g2]? = some (.cells cs' 54 (0, 0))) (hs : cs'.size = cs.size) (hu : ∀ u ∈ cs'.toList, ∃ z : Int, u = .int .u32 z) : KeepU w w' := fun g c hg hc => by
  by_cases e : g = g2
  · subst e
    have e2 := h0.symm.trans hg
    injection e2 with e2
    injection e2 with e2 _ _
    subst e2
    exact ⟨cs', h, hs, hu⟩
  · exact ⟨c, (hf.block g (Array.getElem?_eq_some_iff.1 hg).1 e).trans hg, rfl, hc⟩
theorem KeepU.same {w w' : World} (h : w'.heap = w.heap) : KeepU w w' := fun g c hg hc => ⟨c, by rw [h]; exact hg, rfl, hc⟩
theorem cells5 {w : World} {g cap k : Nat} {t : TypeId} {cur : Array Value} (h : Blk w g t cur) (hs : cur.size = cap * 5) (hk : k < cap) : ∀ j, j < 5 → ∃ x, w.cell? ⟨g, k * 5 + j, none⟩ = some x := fun j hj => by
  rw [h.cell]
  exact ⟨_, Array.getElem?_eq_getElem (by omega)⟩
set_option maxRecDepth 100000 in
set_option maxHeartbeats 4000000 in
theorem spoil_l {wa w : World} {base : Nat} {v : Value} {rs : List Tk} {l : List UInt8} {ps : List (Nat × Nat × Nat)} (hown : OutT wa base v rs) (htk : Toks wa base l rs ps) (hb : Below wa.heap.size wa w) :
    Calls Tryd.prog 11 #[v] w fun e w' => e = .returned (.tuple #[]) ∧ Fr w w' (fun b => base ≤ b ∧ b < wa.heap.size) := by
  obtain ⟨A, cap, hv⟩ := hown.slice
  subst hv
  cases A with
  | none =>
    have hc : cap = 0 ∧ rs.length = 0 := by
      rcases hown with ⟨e, h⟩ | ⟨g', cap', cur, e, _⟩
      · injection e with _ e1 e2; exact ⟨e2, by rw [h]; rfl⟩
      · cases e
    obtain ⟨rfl, h0⟩ := hc
    rw [h0]
    go_enter Tryd.func11, Tryd.ntmps11
    go_wp2_with fail
    go_loopw [2] (fun v2 wr => v2 = .int .i64 0 ∧ wr = w) (fun _ _ => 0)
    case atStart => exact ⟨rfl, rfl⟩
    case round =>
      obtain ⟨rfl, hwr⟩ := hrel
      subst hwr
      go_wp2_with fail
      go_end0
      exact ⟨rfl, Fr.refl _ _⟩
  | some ad =>
    obtain ⟨g, o, spot⟩ := ad
    have hgo : o = 0 ∧ spot = none := by
      rcases hown with ⟨e, _⟩ | ⟨g', cap', cur, e, _⟩
      · cases e
      · injection e with e _ _; injection e with e; injection e with _ e1 e2; exact ⟨e1, e2⟩
    obtain ⟨rfl, rfl⟩ := hgo
    obtain ⟨hsp, hle, hmx⟩ := hown.sp htk hb
    obtain ⟨n, hn⟩ : ∃ n, rs.length = n := ⟨_, rfl⟩
    rw [hn] at hle ⊢
    unfold maxLen at hmx
    clear hown htk hn
    go_enter Tryd.func11, Tryd.ntmps11
    go_wp2_with fail
    go_loopw [2] (fun v2 wr => ∃ k : Nat, k ≤ cap ∧ v2 = .int .i64 (k : Nat) ∧ Sp wr base wa.heap.size g cap ∧ Fr w wr (fun b => base ≤ b ∧ b < wa.heap.size)) (fun v2 _ => cap - (intOf v2).toNat)
    case atStart => exact ⟨0, Nat.zero_le _, rfl, hsp, Fr.refl _ _⟩
    case round =>
      clear hsp
      obtain ⟨k, hk, rfl, hsp, hfr⟩ := hrel
      by_cases hkn : k < cap
      · obtain ⟨hg0, cur, h1, h2, h3⟩ := hsp
        obtain ⟨m, hm, hwr⟩ := h3 k hkn
        have hk0 : (0 : Int) ≤ k := by omega
        have hki : (k : Int) < cap := by omega
        have q := h1.cell (k * 5 + 3)
        rw [hm] at q
        rcases hwr with rfl | ⟨g2, n2, c2, cs, rfl, hn2, hc2, hg2, hgc, hsz, hu⟩
        · go_upto_region 4 with (fail)
          go_quiet (fail)
          go_wp2_with fail
          go_loopw [4] (fun v4 wq => v4 = .int .i64 0 ∧ Fr wr wq (fun _ => False)) (fun _ _ => 0)
          case atStart => exact ⟨rfl, ⟨rfl, rfl, rfl, Nat.le_refl _, fun _ _ _ => rfl⟩⟩
          case round =>
            obtain ⟨rfl, hF⟩ := hrel
            have hB := hF.blk h1 (fun h => h)
            have hspq := Sp.at ⟨hg0, cur, h1, h2, h3⟩ (hF.block g h1.lt (fun h => h)) (fun g c hg hc => ⟨c, (hF.block g (Array.getElem?_eq_some_iff.1 hg).1 (fun h => h)).trans hg, rfl, hc⟩)
            have hfq := hfr.step hF (fun k hk => False.elim hk)
            clear q
            obtain ⟨x0, y0⟩ := cells5 hB h2 hkn 0 (by omega)
            obtain ⟨x1, y1⟩ := cells5 hB h2 hkn 1 (by omega)
            obtain ⟨x2, y2⟩ := cells5 hB h2 hkn 2 (by omega)
            obtain ⟨x3, y3⟩ := cells5 hB h2 hkn 3 (by omega)
            obtain ⟨x4, y4⟩ := cells5 hB h2 hkn 4 (by omega)
            rw [Nat.add_zero] at y0
            have z0 := hB.free (k * 5)
            have z1 := hB.free (k * 5 + 1)
            have z2 := hB.free (k * 5 + 2)
            have z3 := hB.free (k * 5 + 3)
            have z4 := hB.free (k * 5 + 4)
            go_wp2_with fail
            go_roundw
            case rel => exact ⟨k + 1, by omega, by go_num, hspq.put k _ _ _ _, ((((hfq.set (.inl hg0) _ _).set (.inl hg0) _ _).set (.inl hg0) _ _).set (.inl hg0) _ _).set (.inl hg0) _ _⟩
            case measure => simp [intOf]; omega
        · unfold maxLen at hc2
          have hne : g ≠ g2 := blk_ne h1 (show Blk wr g2 54 cs from hgc) (by decide)
          go_upto_region 4 with (fail)
          go_quiet (fail)
          go_wp2_with fail
          go_loopw [4] (fun v4 wq => ∃ (j : Nat) (cs' : Array Value), j ≤ c2 ∧ v4 = .int .i64 (j : Nat) ∧ Blk wq g2 54 cs' ∧ cs'.size = cs.size ∧ Hid (∀ u ∈ cs'.toList, ∃ z : Int, u = .int .u32 z) ∧ Fr wr wq (fun b => b = g2)) (fun v4 _ => c2 - (intOf v4).toNat)
          case atStart => exact ⟨0, cs, Nat.zero_le _, rfl, hgc, rfl, Lib.hid hu, ⟨rfl, rfl, rfl, Nat.le_refl _, fun _ _ _ => rfl⟩⟩
          case round =>
            obtain ⟨j, cs', hj, rfl, hB2, hs2, HU, hF⟩ := hrel
            by_cases hjn : j < c2
            · have hcj := hB2.cell j
              obtain ⟨z, hz⟩ := HU.out (cs'[j]'(by omega)) (by simp)
              rw [Array.getElem?_eq_getElem (by omega), hz] at hcj
              have hfj := hB2.free j
              clear q
              go_wp2_with fail
              go_roundw
              case rel => exact ⟨j + 1, _, by omega, by go_num, hB2.put j _, by simp [hs2], Lib.hid (fun u hu => by
                rw [Array.toList_setIfInBounds] at hu
                rcases List.mem_or_eq_of_mem_set hu with h | h
                · exact HU.out u h
                · exact ⟨_, h⟩), hF.set (.inl rfl) j _⟩
              case measure => simp [intOf]; omega
            · obtain rfl : j = c2 := by omega
              have hB := hF.blk h1 hne
              have hspq := Sp.at ⟨hg0, cur, h1, h2, h3⟩ (hF.block g h1.lt hne) (KeepU.of_fr hF hgc hB2 hs2 HU.out)
              have hfq := hfr.step hF (fun k hk => .inl (by rw [hk]; exact hg2))
              clear q
              obtain ⟨x0, y0⟩ := cells5 hB h2 hkn 0 (by omega)
              obtain ⟨x1, y1⟩ := cells5 hB h2 hkn 1 (by omega)
              obtain ⟨x2, y2⟩ := cells5 hB h2 hkn 2 (by omega)
              obtain ⟨x3, y3⟩ := cells5 hB h2 hkn 3 (by omega)
              obtain ⟨x4, y4⟩ := cells5 hB h2 hkn 4 (by omega)
              rw [Nat.add_zero] at y0
              have z0 := hB.free (k * 5)
              have z1 := hB.free (k * 5 + 1)
              have z2 := hB.free (k * 5 + 2)
              have z3 := hB.free (k * 5 + 3)
              have z4 := hB.free (k * 5 + 4)
              go_wp2_with fail
              go_roundw
              case rel => exact ⟨k + 1, by omega, by go_num, hspq.put k _ _ _ _, ((((hfq.set (.inl hg0) _ _).set (.inl hg0) _ _).set (.inl hg0) _ _).set (.inl hg0) _ _).set (.inl hg0) _ _⟩
              case measure => simp [intOf]; omega
      · obtain rfl : k = cap := by omega
        go_wp2_with fail
        go_end0
        exact ⟨rfl, hfr⟩
end Go.Proofs.YtkioaogpmifgeaaDoor

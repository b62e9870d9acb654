/-
  riddlelaw22.spoil: contract.
-/
import Derived.Test.YtmncamnlmpajbaaSOwn
import Derived.Test.YtmncamnlmpajbaaSNames
import Derived.Deep.CutRange
namespace Go.Proofs.Ytmncamnlmpajbaa
open Go.RowKit

/-- A row of n values that may be written, each of which is as P says, in blocks from lo on below m. -/
def Mrow (w : World) (lo m : Nat) (A : Option Addr) (n : Nat) (P : Value → Prop) : Prop := 0 < n → ∃ b o, A = some ⟨b, o, none⟩ ∧ lo ≤ b ∧ b < m ∧ ∃ cs t, Blk w b t cs ∧ ∀ j, j < n → ∃ v, cs[o + j]? = some v ∧ P v
theorem Mrow.keep {w w' : World} {lo m : Nat} {A : Option Addr} {n : Nat} {P : Value → Prop} (h : Mrow w lo m A n P) (e : ∀ b, lo ≤ b → b < m → w'.heap[b]? = w.heap[b]?) : Mrow w' lo m A n P := fun hn => by
  obtain ⟨b, o, hA, h1, h2, cs, t, hb, hc⟩ := h hn
  exact ⟨b, o, hA, h1, h2, cs, t, (e b h1 h2).trans hb, hc⟩
theorem Mrow.set {w : World} {lo m : Nat} {A : Option Addr} {n : Nat} {P : Value → Prop} (h : Mrow w lo m A n P) (g i : Nat) (u : Value) (hu : P u) : Mrow (w.setCell ⟨g, i, none⟩ u) lo m A n P := fun hn => by
  obtain ⟨b, o, hA, h1, h2, cs, t, hb, hc⟩ := h hn
  by_cases hbg : b = g
  · subst hbg
    refine ⟨b, o, hA, h1, h2, _, t, hb.put i u, fun j hj => ?_⟩
    obtain ⟨v, hv, hp⟩ := hc j hj
    rw [Array.getElem?_setIfInBounds]
    have hlt := (Array.getElem?_eq_some_iff.1 hv).1
    by_cases hij : i = o + j
    · rw [if_pos hij, if_pos (by omega)]
      exact ⟨u, rfl, hu⟩
    · rw [if_neg hij]
      exact ⟨v, hv, hp⟩
  · exact ⟨b, o, hA, h1, h2, cs, t, hb.far hbg i u, hc⟩
theorem SlR.mrow {w : World} {lo m : Nat} {A : Option Addr} {c : Nat} {l : List Nat} (h : SlR w (Nb w lo m) A c l) : Mrow w lo m A l.length (fun v => ∃ x : Int, v = .int .u32 x) := fun hn => by
  obtain ⟨b, o, hA, hc⟩ := h.1.cells hn
  obtain ⟨h1, h2, cs, t, hb⟩ := h.2 hn _ hA
  refine ⟨b, o, hA, h1, h2, cs, t, hb, fun j hj => ⟨.int .u32 (N.dg l j), ?_, _, rfl⟩⟩
  have := hc j hj
  rw [cell_of_row _ _ _ _ _ _ hb] at this
  exact this
theorem StrL.mrow {w : World} {lo m : Nat} {A : Option Addr} {c : Nat} {ns : List ByteArray} (h : StrL w (Nb w lo m) A c ns) : Mrow w lo m A ns.length (fun _ => True) := fun hn => by
  obtain ⟨b, o, hA, ⟨h1, h2, cs, t, hb⟩, hc⟩ := h.2 hn
  refine ⟨b, o, hA, h1, h2, cs, t, hb, fun j hj => ⟨.string (ns.getD j ⟨#[]⟩), ?_, trivial⟩⟩
  have := hc j hj
  rw [cell_of_row _ _ _ _ _ _ hb] at this
  exact this
/-- Trees' cells from the i-th on. -/
def KCells (w : World) (g i n : Nat) (rs : List Kc) : Prop := ∃ cs, Blk w g 35 cs ∧ cs.size = n * 6 ∧ ∀ j, i ≤ j → j < n → ∀ q, q < 6 → cs[j * 6 + q]? = (kcl (rs.getD j kc0))[q]?
theorem KCells.same {w w' : World} {g i n : Nat} {rs : List Kc} (h : KCells w g i n rs) (e : w'.heap[g]? = w.heap[g]?) : KCells w' g i n rs := by
  obtain ⟨cs, hb, h⟩ := h
  exact ⟨cs, e.trans hb, h⟩
theorem KCells.six {w : World} {g i n : Nat} {rs : List Kc} (h : KCells w g i n rs) (hi : i < n) {c : Kc} (hc : rs.getD i kc0 = c) : six w g (i * 6) c.1 c.2.1 c.2.2.1 c.2.2.2.1 c.2.2.2.2.1 c.2.2.2.2.2 := by
  obtain ⟨cs, hb, _, h⟩ := h
  subst hc
  refine ⟨(hb.cell _).trans (h i (Nat.le_refl _) hi 0 (by omega)), (hb.cell _).trans (h i (Nat.le_refl _) hi 1 (by omega)), (hb.cell _).trans (h i (Nat.le_refl _) hi 2 (by omega)), (hb.cell _).trans (h i (Nat.le_refl _) hi 3 (by omega)), (hb.cell _).trans (h i (Nat.le_refl _) hi 4 (by omega)), (hb.cell _).trans (h i (Nat.le_refl _) hi 5 (by omega))⟩
theorem KCells.succ {w : World} {g i n : Nat} {rs : List Kc} (h : KCells w g i n rs) : KCells w g (i + 1) n rs := by
  obtain ⟨cs, hb, hs, h⟩ := h
  exact ⟨cs, hb, hs, fun j h1 => h j (by omega)⟩
theorem KCells.set {w : World} {g i n : Nat} {rs : List Kc} (h : KCells w g i n rs) {p : Nat} (u : Value) (hp : p < i * 6) : KCells (w.setCell ⟨g, p, none⟩ u) g i n rs := by
  obtain ⟨cs, hb, hs, h⟩ := h
  refine ⟨_, hb.put p u, by simpa using hs, fun j h1 h2 q hq => ?_⟩
  rw [Array.getElem?_setIfInBounds, if_neg (by omega)]
  exact h j h1 h2 q hq
theorem KCells.free {w : World} {g i n : Nat} {rs : List Kc} (h : KCells w g i n rs) (p : Nat) : w.frozen? ⟨g, p, none⟩ = false := by
  obtain ⟨cs, hb, _⟩ := h
  exact hb.free p
theorem T.News.drop {w : World} {ks : List T} {g lo hi : Nat} {rs : List Kc} {i : Nat} (h : T.News w (ks.drop i) g lo hi (rs.drop i)) (hi2 : i < ks.length) :
    ∃ a mid, rs[i]? = some (rs.getD i kc0) ∧ ks[i]? = some (ks.getD i t0) ∧ lo ≤ a ∧ a ≤ mid ∧ mid ≤ hi ∧ (g < a ∨ mid ≤ g) ∧ T.New w (ks.getD i t0) a mid (rs.getD i kc0) ∧ T.News w (ks.drop (i + 1)) g mid hi (rs.drop (i + 1)) := by
  have e : ks.drop i = ks.getD i t0 :: ks.drop (i + 1) := by rw [List.drop_eq_getElem_cons hi2]; simp [List.getD, hi2]
  rw [e] at h
  simp only [T.News] at h
  obtain ⟨c, q, a, mid, hrs, h1, h2, hg, ht, hr⟩ := h
  have hlt : i < rs.length := by
    refine Nat.lt_of_not_le fun hge => ?_
    rw [List.drop_eq_nil_of_le hge] at hrs
    cases hrs
  have e2 : rs.drop i = rs.getD i kc0 :: rs.drop (i + 1) := by rw [List.drop_eq_getElem_cons hlt]; simp [List.getD, hlt]
  rw [e2] at hrs
  injection hrs with hc hq
  rw [← hc] at ht
  rw [← hq] at hr
  exact ⟨a, mid, by simp [List.getD, hlt], by simp [List.getD, hi2], h1, h2, T.News.le _ _ _ _ _ hr, hg, ht, hr⟩
theorem Fr.drew {w w' : World} {x : Nat → Prop} (h : Fr w w' x) : Fr w w'.drew x := ⟨h.os, h.tape, h.output, h.size, h.block⟩
theorem Mrow.drew {w : World} {lo m : Nat} {A : Option Addr} {n : Nat} {P : Value → Prop} (h : Mrow w lo m A n P) : Mrow w.drew lo m A n P := h
theorem Fr.wide {w w' : World} {x y : Nat → Prop} (h : Fr w w' x) (hy : ∀ b, x b → y b) : Fr w w' y := ⟨h.os, h.tape, h.output, h.size, fun b hb hn => h.block b hb (fun e => hn (hy b e))⟩
set_option maxRecDepth 100000 in
set_option maxHeartbeats 6400000 in
theorem spoil_walk (w : World) (lo m hi : Nat) (k : Int) (nm : ByteArray) (A1 : Option Addr) (n1 c1 : Nat) (ng : Bool) (A2 : Option Addr) (n2 c2 : Nat) (A3 : Option Addr) (n3 c3 : Nat)
    (hlm : lo ≤ m) (hmh : m ≤ hi) (hh : hi ≤ w.heap.size) (hs : Mrow w lo m A1 n1 (fun _ => True)) (hm : Mrow w lo m A2 n2 (fun v => ∃ x : Int, v = .int .u32 x)) (hn1 : n1 ≤ 1048576) (hn2 : n2 ≤ 1048576)
    (hk : (A3 = none ∧ n3 = 0 ∧ c3 = 0) ∨ ∃ g ks rs, A3 = some ⟨g, 0, none⟩ ∧ m ≤ g ∧ g < hi ∧ n3 ≤ c3 ∧ c3 ≤ maxLen ∧ ks.length = c3 ∧ T.News w ks g m hi rs ∧ KCells w g 0 c3 rs ∧
      ∀ (i : Nat) u c, ks[i]? = some u → rs[i]? = some c → ∀ w a b, T.New w u a b c → b ≤ w.heap.size → Calls Try.prog 26 #[kv c] w fun e w' => e = .returned (.tuple #[]) ∧ Fr w w' (fun x => a ≤ x ∧ x < b)) :
    Calls Try.prog 26 #[.agg #[.int .i64 k, .string nm, .slice A1 n1 c1, .bool ng, .slice A2 n2 c2, .slice A3 n3 c3]] w fun e w' => e = .returned (.tuple #[]) ∧ Fr w w' (fun x => lo ≤ x ∧ x < hi) := by
  have HM := Lib.hid hm
  have HSN := Lib.hid hs
  have HK := Lib.hid hk
  clear hm hs hk
  go_enter Try.func26, Try.ntmps26
  go_upto_region 1 with (fail)
  obtain ⟨W1, hW1, pt, hb1⟩ := made_blk w #[.int .i64 k, .string nm, .slice A1 n1 c1, .bool ng, .slice A2 n2 c2, .slice A3 n3 c3] 35
  obtain ⟨Bt, hBt⟩ : ∃ b, b = w.heap.size := ⟨_, rfl⟩
  rw [← hW1, ← hBt]
  rw [← hBt] at pt
  have hHM : Hid (Mrow W1 lo m A2 n2 (fun v => ∃ x : Int, v = .int .u32 x)) := Lib.hid (HM.out.keep (fun b _ h2 => hb1.block b (by omega)))
  have hHS : Hid (Mrow W1 lo m A1 n1 (fun _ => True)) := Lib.hid (HSN.out.keep (fun b _ h2 => hb1.block b (by omega)))
  have hF0 : Fr w W1 (fun x => lo ≤ x ∧ x < m) := (Fr.refl w _).below hb1
  have hBt2 : hi ≤ Bt := by omega
  clear hW1 hb1 hBt HM HSN
  obtain ⟨x0, x1, x2, x3, x4, x5⟩ := pt.six
  go_wp2_with fail
  go_loopg [2] (n2 + 1) (fun gk vi wr => ∃ (i : Nat), gk + i = n2 + 1 ∧ i ≤ n2 ∧ vi = .int .i64 (i : Nat) ∧ Fr w wr (fun x => lo ≤ x ∧ x < m) ∧ Blk wr Bt 35 #[.int .i64 k, .string nm, .slice A1 n1 c1, .bool ng, .slice A2 n2 c2, .slice A3 n3 c3] ∧ Mrow wr lo m A2 n2 (fun v => ∃ x : Int, v = .int .u32 x) ∧ Mrow wr lo m A1 n1 (fun _ => True))
  case atStart => exact ⟨0, by omega, Nat.zero_le _, rfl, hF0, pt, hHM.out, hHS.out⟩
  case round =>
    clear x0 x1 x2 x3 x4 x5
    obtain ⟨i, hi', hin, rfl, hF, ptk, hMk, hNk⟩ := hrel
    obtain ⟨x0, x1, x2, x3, x4, x5⟩ := ptk.six
    have HMK := Lib.hid hMk
    have HNK := Lib.hid hNk
    clear hMk hNk
    by_cases hlt : i < n2
    · have hi3 : decide (i < n2) = true := decide_eq_true hlt
      obtain ⟨b, o, rfl, hb1, hb2, cs, tt, hbk, hc⟩ := HMK.out (by omega)
      obtain ⟨v, hv, x, rfl⟩ := hc i hlt
      have y0 : wr.cell? ⟨b, o + i, none⟩ = some (.int .u32 x) := (hbk.cell _).trans hv
      have y1 := hbk.free (o + i)
      have hneb : b ≠ Bt := by omega
      have hneb2 : Bt ≠ b := by omega
      have hi0 : (0 : Int) ≤ i := by omega
      have hi1 : (i : Int) < n2 := by omega
      go_upto_region 4 with (fail)
      go_region
      all_goals
        go_wp2_with fail
        go_roundg (n2 - i)
        case measure => omega
        case rel => exact ⟨i + 1, by omega, by omega, by go_num, (hF.set (.inl ⟨hb1, by omega⟩) _ _).drew, ptk.far (by omega) _ _, (HMK.out.set _ _ _ ⟨_, rfl⟩).drew, (HNK.out.set _ _ _ trivial).drew⟩
    · have hi3 : decide (i < n2) = false := decide_eq_false hlt
      clear HMK hHM hHS hF0 pt
      go_wp2_with fail
      go_loopg [3] (n1 + 1) (fun gk vi wr => ∃ (i : Nat), gk + i = n1 + 1 ∧ i ≤ n1 ∧ vi = .int .i64 (i : Nat) ∧ Fr w wr (fun x => lo ≤ x ∧ x < m) ∧ Blk wr Bt 35 #[.int .i64 k, .string nm, .slice A1 n1 c1, .bool ng, .slice A2 n2 c2, .slice A3 n3 c3] ∧ Mrow wr lo m A1 n1 (fun _ => True))
      case atStart => exact ⟨0, by omega, Nat.zero_le _, rfl, hF, ptk, HNK.out⟩
      case round =>
        clear x0 x1 x2 x3 x4 x5 HNK ptk hF
        obtain ⟨i, hi', hin, rfl, hF, ptk, hNk⟩ := hrel
        obtain ⟨x0, x1, x2, x3, x4, x5⟩ := ptk.six
        have HNK := Lib.hid hNk
        clear hNk
        by_cases hlt : i < n1
        · have hi3 : decide (i < n1) = true := decide_eq_true hlt
          obtain ⟨b, o, rfl, hb1, hb2, cs, tt, hbk, hc⟩ := HNK.out (by omega)
          obtain ⟨v, hv, _⟩ := hc i hlt
          have y0 : wr.cell? ⟨b, o + i, none⟩ = some v := (hbk.cell _).trans hv
          have y1 := hbk.free (o + i)
          have hneb : b ≠ Bt := by omega
          have hi0 : (0 : Int) ≤ i := by omega
          have hi1 : (i : Int) < n1 := by omega
          go_wp2_with fail
          go_roundg (n1 - i)
          case measure => omega
          case rel => exact ⟨i + 1, by omega, by omega, by go_num, hF.set (.inl ⟨hb1, by omega⟩) _ _, ptk.far (by omega) _ _, HNK.out.set _ _ _ trivial⟩
        · have hi3 : decide (i < n1) = false := decide_eq_false hlt
          clear HNK
          have hFw : Fr w wr (fun x => lo ≤ x ∧ x < hi) := hF.wide (fun b e => ⟨e.1, by omega⟩)
          rcases HK.out with ⟨rfl, rfl, rfl⟩ | ⟨g, ks, rs, rfl, hg1, hg2, hnc, hcm, hkl, hnw, hkc, hcall⟩
          · go_wp2_with fail
            go_loopg [5] 1 (fun gk vi wr2 => gk = 1 ∧ vi = .int .i64 (0 : Nat) ∧ wr2 = wr)
            case atStart => exact ⟨rfl, rfl, rfl⟩
            case round =>
              obtain ⟨hgk, rfl, rfl⟩ := hrel
              go_wp2_with fail
              go_end0
              exact ⟨rfl, hFw⟩
          · have HC := Lib.hid hcall
            have hsame : ∀ b, m ≤ b → b < hi → wr.heap[b]? = w.heap[b]? := fun b h1 h2 => hF.block b (by omega) (by omega)
            have HNW := Lib.hid (T.News.keep _ _ _ _ _ hnw (fun b h1 h2 _ => hsame b h1 h2))
            have HKC := Lib.hid (hkc.same (hsame g hg1 hg2))
            clear hcall hnw hkc hsame hF
            have hc0 : (0 : Int) ≤ c3 := by omega
            unfold maxLen at hcm
            go_wp2_with fail
            go_loopg [5] (c3 + 1) (fun gk vi wr2 => ∃ (i lo' : Nat), gk + i = c3 + 1 ∧ i ≤ c3 ∧ vi = .int .i64 (i : Nat) ∧ Fr w wr2 (fun x => lo ≤ x ∧ x < hi) ∧ m ≤ lo' ∧ T.News wr2 (ks.drop i) g lo' hi (rs.drop i) ∧ KCells wr2 g i c3 rs)
            case atStart => exact ⟨0, m, by omega, Nat.zero_le _, rfl, hFw, Nat.le_refl _, HNW.out, HKC.out⟩
            case round =>
              clear x0 x1 x2 x3 x4 x5 HNW HKC hFw ptk
              obtain ⟨i, lo', hi', hin, rfl, hF, hlo', hnw, hkc⟩ := hrel
              by_cases hlt : i < c3
              · have hi3 : decide (i < c3) = true := decide_eq_true hlt
                obtain ⟨a, mid, e1, e2, h1, h2, h3, hgg, ht, hr⟩ := hnw.drop (by omega)
                have hgl : g < wr.heap.size := by have := hF.size; omega
                obtain ⟨c, hc⟩ : ∃ c, rs.getD i kc0 = c := ⟨_, rfl⟩
                have h6 := hkc.six hlt hc
                rw [hc] at e1 ht
                obtain ⟨z0, z1, z2, z3, z4, z5⟩ := h6
                have HT := Lib.hid ht
                have HR := Lib.hid hr
                have hi0 : (0 : Int) ≤ i := by omega
                have hi1 : (i : Int) < c3 := by omega
                clear hnw ht hr
                go_upto_region 14 with (go_at_call 26; refine (HC.out i _ c e2 e1 _ a mid HT.out (by have := hF.size; omega)).mono ?_; rintro e w2 ⟨rfl, hF2⟩)
                have hkc2 := hkc.same (hF2.block g hgl (by omega))
                have HR2 := Lib.hid (T.News.keep _ _ _ _ _ HR.out (fun b hb1 hb2 hb3 => hF2.block b (by have := hF.size; omega) (by omega)))
                have hF3 := hF.step hF2 (fun k hk => .inl ⟨by omega, by omega⟩)
                obtain ⟨z0, z1, z2, z3, z4, z5⟩ := hkc2.six hlt hc
                have f0 := hkc2.free (i * 6)
                have f1 := hkc2.free (i * 6 + 1)
                have f2 := hkc2.free (i * 6 + 2)
                have f3 := hkc2.free (i * 6 + 3)
                have f4 := hkc2.free (i * 6 + 4)
                have f5 := hkc2.free (i * 6 + 5)
                go_wp2_with fail
                obtain ⟨W3, hW3⟩ : ∃ W, W = (((((w2.setCell ⟨g, i * 6, none⟩ (.int .i64 66)).setCell ⟨g, i * 6 + 1, none⟩ (.string ⟨#[]⟩)).setCell ⟨g, i * 6 + 2, none⟩ (.slice none 0 0)).setCell ⟨g, i * 6 + 3, none⟩ (.bool false)).setCell ⟨g, i * 6 + 4, none⟩ (.slice none 0 0)).setCell ⟨g, i * 6 + 5, none⟩ (.slice none 0 0) := ⟨_, rfl⟩
                rw [← hW3]
                have hg3 : lo ≤ g ∧ g < hi := ⟨by omega, hg2⟩
                have K3 : KCells W3 g (i + 1) c3 rs := by rw [hW3]; exact ((((((hkc2.succ.set _ (by omega)).set _ (by omega)).set _ (by omega)).set _ (by omega)).set _ (by omega)).set _ (by omega))
                have F3 : Fr w W3 (fun x => lo ≤ x ∧ x < hi) := by rw [hW3]; exact (((((hF3.set (.inl hg3) _ _).set (.inl hg3) _ _).set (.inl hg3) _ _).set (.inl hg3) _ _).set (.inl hg3) _ _).set (.inl hg3) _ _
                have hfar : ∀ b, b ≠ g → W3.heap[b]? = w2.heap[b]? := fun b h2 => by
                  rw [hW3]
                  exact (((((Below.heap_setCell _ ⟨g, i * 6 + 5, none⟩ _ _ h2).trans (Below.heap_setCell _ ⟨g, i * 6 + 4, none⟩ _ _ h2)).trans (Below.heap_setCell _ ⟨g, i * 6 + 3, none⟩ _ _ h2)).trans (Below.heap_setCell _ ⟨g, i * 6 + 2, none⟩ _ _ h2)).trans (Below.heap_setCell _ ⟨g, i * 6 + 1, none⟩ _ _ h2)).trans (Below.heap_setCell _ ⟨g, i * 6, none⟩ _ _ h2)
                have N3 := T.News.keep (w' := W3) _ _ _ _ _ HR2.out (fun b _ _ h => hfar b h)
                go_roundg (c3 - i)
                case measure => omega
                case rel => exact ⟨i + 1, mid, by omega, by omega, by go_num, F3, by omega, N3, K3⟩
              · have hi3 : decide (i < c3) = false := decide_eq_false hlt
                go_wp2_with fail
                go_end0
                exact ⟨rfl, hF⟩
theorem kc0_new (w : World) (hi : Nat) : T.New w t0 hi hi kc0 := by
  simp only [T.New, t0]
  exact ⟨none, 0, none, 0, none, 0, hi, rfl, Nat.le_refl _, Nat.le_refl _, ⟨Nat.zero_le _, fun h => absurd h (by simp)⟩, ⟨Sl.nil _ _ _, fun h => absurd h (by simp)⟩, .inl (by simp)⟩
theorem news_room {w : World} {ks : List T} {g m hi : Nat} {rs : List Kc} (h : T.News w ks g m hi rs) (hg : g < hi) : ∀ n, T.News w (ks ++ List.replicate n t0) g m hi (rs ++ List.replicate n kc0)
  | 0 => by simpa using h
  | n + 1 => by
    have := T.News.snoc _ _ _ _ _ _ t0 kc0 (news_room h hg n) (kc0_new w hi) (.inl hg)
    rw [List.replicate_succ', List.replicate_succ', ← List.append_assoc, ← List.append_assoc]
    exact this
theorem kzs_six (n i j : Nat) (h : i < n) (hj : j < 6) : (kzs n)[i * 6 + j]? = (kcl kc0)[j]? := by
  rw [kzs_get _ _ (by omega), show (i * 6 + j) % 6 = j by omega]
  have : j = 0 ∨ j = 1 ∨ j = 2 ∨ j = 3 ∨ j = 4 ∨ j = 5 := by omega
  rcases this with rfl | rfl | rfl | rfl | rfl | rfl
  all_goals rfl
theorem spoil_zero (w : World) : Calls Try.prog 26 #[kv kc0] w fun e w' => e = .returned (.tuple #[]) ∧ Fr w w' (fun _ => False) := by
  refine (spoil_walk w 0 0 0 0 ⟨#[]⟩ none 0 0 false none 0 0 none 0 0 (Nat.le_refl _) (Nat.le_refl _) (Nat.zero_le _) (fun h => absurd h (by simp)) (fun h => absurd h (by simp)) (by decide) (by decide) (.inl ⟨rfl, rfl, rfl⟩)).mono ?_
  rintro e w' ⟨rfl, hF⟩
  exact ⟨rfl, hF.wide (fun b e => absurd e.2 (by omega))⟩
theorem spoil_t : ∀ (N : Nat) (t : T) (w : World) (lo hi : Nat) (c : Kc), t.bulk ≤ N → N ≤ 1048576 → T.New w t lo hi c → hi ≤ w.heap.size →
    Calls Try.prog 26 #[kv c] w fun e w' => e = .returned (.tuple #[]) ∧ Fr w w' (fun x => lo ≤ x ∧ x < hi)
  | 0, t, _, _, _, _, hN, _, _, _ => by have := T.bulk_pos t; omega
  | N + 1, t, w, lo, hi, c, hN, hN2, h, hh => by
    have ih := spoil_t N
    obtain ⟨hl1, hl2, hl3, hl4, hlen⟩ := T.len_le hN
    have hkb := fun i hi => T.kid_bulk (i := i) hN hi
    cases t with
    | node k nm ns ng mg ks =>
      simp only [T.New] at h
      obtain ⟨A1, c1, A2, c2, A3, c3, m, rfl, h1, h2, hs, hm, hk⟩ := h
      refine spoil_walk w lo m hi k nm A1 _ c1 ng A2 _ c2 A3 _ c3 h1 h2 hh hs.mrow hm.mrow (Nat.le_trans hl2 hN2) (Nat.le_trans hl4 hN2) ?_
      rcases hk with ⟨rfl, rfl, rfl⟩ | ⟨g, rs, rfl, hg1, hg2, ⟨cur, hb, hnc, hcm, hrl, hcur⟩, hn⟩
      · exact .inl ⟨rfl, rfl, rfl⟩
      · refine .inr ⟨g, ks ++ List.replicate (c3 - ks.length) t0, rs ++ List.replicate (c3 - ks.length) kc0, rfl, hg1, hg2, hnc, hcm, by simp; omega, news_room hn hg2 _, ⟨cur, hb, ?_, ?_⟩, ?_⟩
        · rw [← Array.length_toList, hcur, List.length_append, kcs_length, kzs_length]; omega
        · intro j _ hj q hq
          rw [← Array.getElem?_toList, hcur]
          by_cases hjn : j < ks.length
          · rw [List.getElem?_append_left (by rw [kcs_length]; omega), kcs_get _ _ _ (by omega) hq]
            simp [List.getD, List.getElem?_append_left (show j < rs.length by omega)]
          · rw [List.getElem?_append_right (by rw [kcs_length]; omega), kcs_length, show j * 6 + q - rs.length * 6 = (j - ks.length) * 6 + q by omega, kzs_six _ _ _ (by omega) hq]
            simp [List.getD, List.getElem?_append_right (show rs.length ≤ j by omega), show j - rs.length < c3 - ks.length by omega]
        · intro i u c hu hc w a b ht hb
          by_cases hin : i < ks.length
          · rw [List.getElem?_append_left hin] at hu
            have hub : u.bulk ≤ N := by
              have := hkb i hin
              simp only [T.ks, List.getD, hu, Option.getD_some] at this
              exact this
            exact ih u w a b c hub (by omega) ht hb
          · rw [List.getElem?_append_right (by omega)] at hc
            have hc0 : c = kc0 := by
              have := List.mem_of_getElem? hc
              exact (List.mem_replicate.1 this).2
            subst hc0
            refine (spoil_zero w).mono ?_
            rintro e w' ⟨rfl, hF⟩
            exact ⟨rfl, hF.wide (fun b e => e.elim)⟩
end Go.Proofs.Ytmncamnlmpajbaa

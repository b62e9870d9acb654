/-
  q: the parts TUns.
-/
import Derived.Test.YthiadenmljbdaaaGreatDoorB33q
import Derived.Test.YthiadenmljbdaaaGreatDoorB11q
import Derived.Test.YthiadenmljbdaaaGreatDoorB8q
namespace Go.Proofs.YthiadenmljbdaaaGreatDoor
section
open Go.RowKit
theorem exact_of (t : T) {N : Nat} (hN : t.bulk ≤ N + 1) (w : World) (R R' : Nat → Prop) (gn gm : Nat) (A1 : Option Addr) (c1 : Nat) (A2 : Option Addr) (c2 : Nat)
    (h1 : StrL w R (some ⟨gn, 0, none⟩) (t.ns.length + 2) t.ns) (h2 : SlR w R (some ⟨gm, 0, none⟩) (t.mg.length + 2) t.mg) (h3 : StrL w R' A1 c1 t.ns) (h4 : SlR w R' A2 c2 t.mg) (w' : World) (hb : Below w.heap.size w w') (hN2 : N + 1 ≤ 1048576) :
    Calls Tryz.prog 13 #[.agg #[.int .i64 0, .string t.nm, .slice (some ⟨gn, 0, none⟩) t.ns.length (t.ns.length + 2), .bool t.ng, .slice (some ⟨gm, 0, none⟩) t.mg.length (t.mg.length + 2), .slice none 0 0], .agg #[.int .i64 0, .string t.nm, .slice A1 t.ns.length c1, .bool t.ng, .slice A2 t.mg.length c2, .slice none 0 0]] w' fun e w'' => e = .returned (.bool true) ∧ Below w'.heap.size w' w'' := by
  have hu : (T.node 0 t.nm t.ns t.ng t.mg []).bulk ≤ N + 1 := by
   cases t
   simp only [T.bulk, T.bulks, T.nm, T.ns, T.mg] at hN ⊢
   omega
  refine exact_t (N + 1) (.node 0 t.nm t.ns t.ng t.mg []) (.node 0 t.nm t.ns t.ng t.mg []) w' R R' _ _ hu hu hN2 rfl ?_ ?_
  · refine T.In.below ?_ hb
    rw [T.In]
    exact ⟨_, _, _, _, _, _, rfl, h1, h2, Nat.le_refl _, fun h => absurd h (by simp)⟩
  · refine T.In.below ?_ hb
    rw [T.In]
    exact ⟨_, _, _, _, _, _, rfl, h3, h4, Nat.le_refl _, fun h => absurd h (by simp)⟩
set_option maxRecDepth 100000 in
set_option maxHeartbeats 16000000 in
theorem unspoilt_t : ∀ (N : Nat) (t : T) (w : World) (lo hi : Nat) (c : Kc) (R : Nat → Prop) (v : Value), t.bulk ≤ N → N ≤ 1048576 → T.Lent w lo hi t c → hi ≤ w.heap.size → T.In w R t v →
    Calls Tryz.prog 21 #[kv c, v] w fun e w' => e = .returned (.bool true) ∧ Below w.heap.size w w'
  | 0, t, _, _, _, _, _, _, hN, _, _, _, _ => by have := T.bulk_pos t; omega
  | N + 1, t, w, lo, hi, c, R, v, hN, hN2, hL, hh, h => by
   have ih := unspoilt_t N
   have hex := exact_of t hN
   obtain ⟨gn, gm, kg, rs, rfl, hgn, hgm, hkg, hlim, hrl, bn, bm, bk, hls⟩ := hL.open
   obtain ⟨A1, c1, A2, c2, A3, c3, rfl, hnames, hmag, hc3, hkids⟩ := h.open
   obtain ⟨hl1, hl2, hl3, hl4, hlen⟩ := T.len_le hN
   have hE := hex w (fun _ => True) R gn gm A1 c1 A2 c2 ⟨by omega, fun _ => ⟨gn, 0, rfl, trivial, fun i hi => by rw [Nat.zero_add, bn.celll, nameC_get hi]⟩⟩ ⟨⟨rfl, by omega, hlim, fun _ => ⟨gm, 0, rfl, fun i hi => by rw [Nat.zero_add, bm.celll, magC_get hi]⟩⟩, fun _ _ _ => trivial⟩ hnames hmag
   have emag := (bm.celll t.mg.length).trans (magC_mark t.mg)
   have enam := (bn.celll t.ns.length).trans (nameC_mark t.ns)
   have ekid := (bk.celll (rs.length * 6)).trans (kidC_mark rs)
   have HKC := Lib.hid (fun (i : Nat) (hi : i < rs.length) (j : Nat) (hj : j < 6) => (bk.celll (i * 6 + j)).trans (kidC_get hi hj))
   have hcap1 := hnames.1
   have hcap2 := hmag.1.cap
   rw [hrl] at ekid HKC
   obtain ⟨n, hn⟩ : ∃ n, t.ks.length = n := ⟨_, rfl⟩
   obtain ⟨n1, hn1⟩ : ∃ n, t.ns.length = n := ⟨_, rfl⟩
   obtain ⟨n2, hn2⟩ : ∃ n, t.mg.length = n := ⟨_, rfl⟩
   rw [hn] at hkids hc3 hlen ekid HKC hrl ⊢
   rw [hn1] at hl2 hcap1 enam hE ⊢
   rw [hn2] at hl4 hcap2 emag hE ⊢
   have HN := Lib.hid hn
   have HB := Lib.hid hN
   have HK := Lib.hid hkids
   have HLS := Lib.hid hls
   have HE := Lib.hid hE
   have HRL := Lib.hid hrl
   obtain ⟨kk, hkk⟩ : ∃ x, t.k = x := ⟨_, rfl⟩
   obtain ⟨nm, hnm⟩ : ∃ x, t.nm = x := ⟨_, rfl⟩
   obtain ⟨ng, hng⟩ : ∃ x, t.ng = x := ⟨_, rfl⟩
   rw [hkk, hnm, hng]
   rw [hnm, hng] at HE
   have hne1 : ((77 : Int) != 77) = false := by decide
   clear hn hn1 hn2 hkids hN h hL hnames hmag hls hex hE hrl bn bm bk hlim hkk hnm hng hl1 hl3
   go_enter Tryz.func21, Tryz.ntmps21
   go_upto_region 1 with (fail)
   obtain ⟨W0, hW0, pt0, hb0⟩ := made_blk w #[.int .i64 kk, .string nm, .slice (some ⟨gn, 0, none⟩) n1 (n1 + 2), .bool ng, .slice (some ⟨gm, 0, none⟩) n2 (n2 + 2), .slice (some ⟨kg, 0, none⟩) n (n + 1)] 28
   have hsz0 : W0.heap.size = w.heap.size + 1 := by rw [hW0]; simp
   obtain ⟨Bt, hBt⟩ : ∃ b, b = w.heap.size := ⟨_, rfl⟩
   rw [← hW0, ← hBt]
   rw [← hBt] at pt0 hsz0
   obtain ⟨W1, hW1, pu, hb1⟩ := made_blk W0 #[.int .i64 kk, .string nm, .slice A1 n1 c1, .bool ng, .slice A2 n2 c2, .slice A3 n c3] 28
   rw [← hW1]
   rw [hsz0] at pu
   have pt := pt0.below hb1
   have hb1 := below_on hb0 hb1
   have HBT := Lib.hid hBt
   clear hW0 hW1 hb0 hBt hsz0 pt0
   obtain ⟨x0, x1, x2, x3, x4, x5⟩ := pt.six
   obtain ⟨y0, y1, y2, y3, y4, y5⟩ := pu.six
   have e1 := keep_cell emag hb1
   have e2 : W1.cell? ⟨gn, n1, none⟩ = some (.string ⟨#[109, 97, 114, 107]⟩) := keep_cell enam hb1
   have e3 := keep_cell ekid hb1
   clear emag enam ekid
   have hi0 : (0 : Int) ≤ n2 := by omega
   have hi1 : (n2 : Int) < n2 + 2 := by omega
   have hi2 : (0 : Int) ≤ n1 := by omega
   have hi3 : (n1 : Int) < n1 + 2 := by omega
   have hi4 : (0 : Int) ≤ n := by omega
   have hi5 : (n : Int) < n + 1 := by omega
   have d1 : decide ((n2 : Int) + 2 ≤ (n2 : Int)) = false := decide_eq_false (by omega)
   have d2 : decide ((n1 : Int) + 2 ≤ (n1 : Int)) = false := decide_eq_false (by omega)
   have d3 : decide ((n : Int) + 1 ≤ (n : Int)) = false := decide_eq_false (by omega)
   go_upto_region 8 with (fail)
   clear d1 d2 d3
   go_wp2_with fail
   go_loopg [8] (n + 1) (fun gq v8 wr => ∃ j : Nat, gq + j = n + 1 ∧ j ≤ n ∧ v8 = .int .i64 (j : Nat) ∧ Below W1.heap.size W1 wr)
   case atStart => exact ⟨0, by omega, Nat.zero_le _, rfl, Below.refl _ _⟩
   case round =>
    clear x0 x1 x2 x3 x4 x5 y0 y1 y2 y3 y4 y5 e1 e2 e3 hi0 hi1 hi2 hi3 hi4 hi5
    obtain ⟨j, hj, hjn, rfl, hS⟩ := hrel
    obtain ⟨x0, x1, x2, x3, x4, x5⟩ := (pt.below hS).six
    obtain ⟨y0, y1, y2, y3, y4, y5⟩ := (pu.below hS).six
    by_cases hlt : j < n
    ·
     have hi6 : decide (j < n) = true := decide_eq_true hlt
     obtain ⟨b, o, rfl, hk⟩ := HK.out (by omega)
     have hbr := below_on hb1 hS
     have hkd := (hk j hlt).below hbr
     have hub := T.kid_bulk HB.out (show j < t.ks.length by rw [HN.out]; exact hlt)
     have hlk := (T.Lents.get t.ks rs j HLS.out (by rw [HN.out]; exact hlt)).below hh hbr
     have hkc := HKC.out j hlt
     obtain ⟨c, hc⟩ : ∃ c, rs.getD j kc0 = c := ⟨_, rfl⟩
     obtain ⟨a, ha⟩ : ∃ a, t.ks.getD j t0 = a := ⟨_, rfl⟩
     rw [ha] at hkd hub hlk
     rw [hc] at hlk hkc
     clear ha hc hk
     obtain ⟨gn', gm', gk', rs', hcc, -⟩ := hlk.open
     subst hcc
     obtain ⟨B1, b1, B2, b2, B3, b3, h6, hkin⟩ := hkd
     obtain ⟨f0, f1, f2, f3, f4, f5⟩ := h6
     have e0 : wr.cell? ⟨kg, j * 6, none⟩ = some (.int .i64 a.k) := keep_cell (show w.cell? ⟨kg, j * 6, none⟩ = some (.int .i64 a.k) from hkc 0 (by omega)) hbr
     have e1 : wr.cell? ⟨kg, j * 6 + 1, none⟩ = some (.string a.nm) := keep_cell (hkc 1 (by omega)) hbr
     have e2 : wr.cell? ⟨kg, j * 6 + 2, none⟩ = some (.slice (some ⟨gn', 0, none⟩) a.ns.length (a.ns.length + 2)) := keep_cell (hkc 2 (by omega)) hbr
     have e3 : wr.cell? ⟨kg, j * 6 + 3, none⟩ = some (.bool a.ng) := keep_cell (hkc 3 (by omega)) hbr
     have e4 : wr.cell? ⟨kg, j * 6 + 4, none⟩ = some (.slice (some ⟨gm', 0, none⟩) a.mg.length (a.mg.length + 2)) := keep_cell (hkc 4 (by omega)) hbr
     have e5 : wr.cell? ⟨kg, j * 6 + 5, none⟩ = some (.slice (some ⟨gk', 0, none⟩) a.ks.length (a.ks.length + 1)) := keep_cell (hkc 5 (by omega)) hbr
     have HI := Lib.hid (fun (w' : World) (hb : Below wr.heap.size wr w') => hkin.below hb)
     have HLK := Lib.hid (fun (w' : World) (hb : Below wr.heap.size wr w') => hlk.below (Nat.le_trans hh hbr.size) hb)
     have HH := Lib.hid (fun (w' : World) (hb : Below wr.heap.size wr w') => Nat.le_trans (Nat.le_trans hh hbr.size) hb.size)
     have hi0 : (0 : Int) ≤ j := by omega
     have hi1 : (j : Int) < n := by omega
     have hS0 : ∀ w', Below wr.heap.size wr w' → (fun w' => (w'.cell? ⟨Bt, 5, none⟩ = some (.slice (some ⟨kg, 0, none⟩) n (n + 1)) ∧ w'.cell? ⟨Bt + 1, 5, none⟩ = some (.slice (some ⟨b, o, none⟩) n c3) ∧ w'.cell? ⟨kg, j * 6, none⟩ = some (.int .i64 a.k) ∧ w'.cell? ⟨kg, j * 6 + 1, none⟩ = some (.string a.nm) ∧ w'.cell? ⟨kg, j * 6 + 2, none⟩ = some (.slice (some ⟨gn', 0, none⟩) a.ns.length (a.ns.length + 2)) ∧ w'.cell? ⟨kg, j * 6 + 3, none⟩ = some (.bool a.ng) ∧ w'.cell? ⟨kg, j * 6 + 4, none⟩ = some (.slice (some ⟨gm', 0, none⟩) a.mg.length (a.mg.length + 2)) ∧ w'.cell? ⟨kg, j * 6 + 5, none⟩ = some (.slice (some ⟨gk', 0, none⟩) a.ks.length (a.ks.length + 1)) ∧ w'.cell? ⟨b, o + j * 6, none⟩ = some (.int .i64 a.k) ∧ w'.cell? ⟨b, o + j * 6 + 1, none⟩ = some (.string a.nm) ∧ w'.cell? ⟨b, o + j * 6 + 2, none⟩ = some (.slice B1 a.ns.length b1) ∧ w'.cell? ⟨b, o + j * 6 + 3, none⟩ = some (.bool a.ng) ∧ w'.cell? ⟨b, o + j * 6 + 4, none⟩ = some (.slice B2 a.mg.length b2) ∧ w'.cell? ⟨b, o + j * 6 + 5, none⟩ = some (.slice B3 a.ks.length b3)) ∧ Below wr.heap.size wr w') w' := fun w' h =>
      ⟨⟨keep_cell x5 h, keep_cell y5 h, keep_cell e0 h, keep_cell e1 h, keep_cell e2 h, keep_cell e3 h, keep_cell e4 h, keep_cell e5 h, keep_cell f0 h, keep_cell f1 h, keep_cell f2 h, keep_cell f3 h, keep_cell f4 h, keep_cell f5 h⟩, h⟩
     have HS0 := Lib.hid hS0
     have HSW := Lib.hid hS
     clear hkin hlk hS0 hS hkc hbr
     go_upto_region 11 with (fail)
     have hS : Below wr.heap.size wr wr := Below.refl _ _
     clear x0 x1 x2 x3 x4 x5 y0 y1 y2 y3 y4 y5 e0 e1 e2 e3 e4 e5 f0 f1 f2 f3 f4 f5
     go_region_held3 (fun w' => (w'.cell? ⟨Bt, 5, none⟩ = some (.slice (some ⟨kg, 0, none⟩) n (n + 1)) ∧ w'.cell? ⟨Bt + 1, 5, none⟩ = some (.slice (some ⟨b, o, none⟩) n c3) ∧ w'.cell? ⟨kg, j * 6, none⟩ = some (.int .i64 a.k) ∧ w'.cell? ⟨kg, j * 6 + 1, none⟩ = some (.string a.nm) ∧ w'.cell? ⟨kg, j * 6 + 2, none⟩ = some (.slice (some ⟨gn', 0, none⟩) a.ns.length (a.ns.length + 2)) ∧ w'.cell? ⟨kg, j * 6 + 3, none⟩ = some (.bool a.ng) ∧ w'.cell? ⟨kg, j * 6 + 4, none⟩ = some (.slice (some ⟨gm', 0, none⟩) a.mg.length (a.mg.length + 2)) ∧ w'.cell? ⟨kg, j * 6 + 5, none⟩ = some (.slice (some ⟨gk', 0, none⟩) a.ks.length (a.ks.length + 1)) ∧ w'.cell? ⟨b, o + j * 6, none⟩ = some (.int .i64 a.k) ∧ w'.cell? ⟨b, o + j * 6 + 1, none⟩ = some (.string a.nm) ∧ w'.cell? ⟨b, o + j * 6 + 2, none⟩ = some (.slice B1 a.ns.length b1) ∧ w'.cell? ⟨b, o + j * 6 + 3, none⟩ = some (.bool a.ng) ∧ w'.cell? ⟨b, o + j * 6 + 4, none⟩ = some (.slice B2 a.mg.length b2) ∧ w'.cell? ⟨b, o + j * 6 + 5, none⟩ = some (.slice B3 a.ks.length b3)) ∧ Below wr.heap.size wr w')
      (first | exact HS0.out _ (by with_reducible assumption) | exact HS0.out _ (Below.drew (by with_reducible assumption)))
      (first
        | (go_at_call 21; refine (ih a _ lo hi _ R _ hub (by omega) (HLK.out _ (s_below (by with_reducible assumption))) (HH.out _ (s_below (by with_reducible assumption))) (HI.out _ (s_below (by with_reducible assumption)))).mono ?_; rintro e wn ⟨rfl, hb⟩; have hS2 := below_on (s_below (by with_reducible assumption)) hb; clear hS; have hS := hS2; clear hS2 hb))
     replace hS := below_on HSW.out hS
     go_wp2_with fail
     go_roundg (n - j)
     case measure => omega
     case rel => exact ⟨j + 1, by omega, by omega, by go_num, hS⟩
    · have hi6 : decide (j < n) = false := decide_eq_false hlt
      obtain rfl : j = n := by omega
      have hbr := below_on hb1 hS
      go_wp2_with (go_at_call 13; refine (HE.out _ hbr hN2).mono ?_; rintro e w5 ⟨rfl, hb5⟩)
      go_ret
      exact ⟨rfl, below_on hbr hb5⟩
end
end Go.Proofs.YthiadenmljbdaaaGreatDoor

/-
  q: the parts YDepth YRDepth YSize YNone YKind YName YRow YNew.
-/
import Derived.Test.YthiadenmljbdaaaGreatDoorB6q
import Derived.Deep.LoopGhost
import Derived.Deep.Cut
import Derived.Laws.AppendOwn
namespace Go.Proofs.YthiadenmljbdaaaGreatDoor
section
open Go.RowKit
mutual
def T.depth : T → Nat
 | .node _ _ _ _ _ ks => T.depths ks + 1
def T.depths : List T → Nat
 | [] => 0
 | t :: r => max t.depth (T.depths r)
end
theorem T.depth_eq (t : T) : t.depth = T.depths t.ks + 1 := by cases t; simp [T.depth, T.ks]
theorem T.depths_snoc : ∀ (l : List T) (t : T), T.depths (l ++ [t]) = max (T.depths l) t.depth
 | [], t => by simp [T.depths]
 | u :: r, t => by simp [T.depths, T.depths_snoc r t, Nat.max_assoc]
mutual
theorem T.depth_le : ∀ (t : T), t.depth ≤ t.bulk
 | .node _ _ _ _ _ ks => by have := T.depths_le ks; simp only [T.depth, T.bulk]; omega
theorem T.depths_le : ∀ (l : List T), T.depths l ≤ T.bulks l
 | [] => by simp [T.depths]
 | t :: r => by have := T.depth_le t; have := T.depths_le r; simp only [T.depths, T.bulks]; omega
end
set_option maxRecDepth 100000 in
set_option maxHeartbeats 1600000 in
theorem depth_t : ∀ (N : Nat) (t : T) (w : World) (R : Nat → Prop) (v : Value), t.bulk ≤ N → N ≤ 1048576 → T.In w R t v →
    Calls Tryz.prog 40 #[v] w fun e w' => e = .returned (.int .i64 (t.depth : Nat)) ∧ Below w.heap.size w w'
  | 0, t, _, _, _, hN, _, _ => by have := T.bulk_pos t; omega
  | N + 1, t, w, R, v, hN, hN2, h => by
   have ih := depth_t N
   obtain ⟨A1, c1, A2, c2, A3, c3, rfl, _, _, hc3, hkids⟩ := h.open
   obtain ⟨n, hn⟩ : ∃ n, t.ks.length = n := ⟨_, rfl⟩
   have hlen := (T.len_le hN).2.2.2.2
   rw [hn] at hkids hc3 hlen ⊢
   have HN := Lib.hid hn
   have HK := Lib.hid hkids
   have HB := Lib.hid hN
   clear hn hkids hN h
   go_enter Tryz.func40, Tryz.ntmps40
   go_wp2_with fail
   go_loopg [3, 9] (n + 1) (fun gk v3 v9 wr => ∃ i : Nat, gk + i = n + 1 ∧ i ≤ n ∧ v9 = .int .i64 (i : Nat) ∧ v3 = .int .i64 (T.depths (t.ks.take i) : Nat) ∧ Below w.heap.size w wr)
   case atStart => exact ⟨0, by omega, Nat.zero_le _, rfl, rfl, below_alloc1 _ _⟩
   case round =>
    obtain ⟨i, hi, hin, rfl, rfl, hbw⟩ := hrel
    by_cases hlt : i < n
    ·
     obtain ⟨b, o, rfl, hk⟩ := HK.out (by omega)
     have hkd := hk i hlt
     obtain ⟨u, hu⟩ : ∃ u, t.ks.getD i t0 = u := ⟨_, rfl⟩
     rw [hu] at hkd
     have hub : u.bulk ≤ N := by rw [← hu]; exact T.kid_bulk HB.out (by rw [HN.out]; exact hlt)
     have hud := T.depth_le u
     have HU := Lib.hid hu
     clear hk hu
     obtain ⟨B1, d1, B2, d2, B3, d3, h6, hin2⟩ := hkd.below hbw
     have hal := below_alloc1 wr (.cells #[.int .i64 u.k, .string u.nm, .slice B1 u.ns.length d1, .bool u.ng, .slice B2 u.mg.length d2, .slice B3 u.ks.length d3] 28)
     have HI := Lib.hid (hin2.below hal)
     have hbw2 := below_on hbw hal
     obtain ⟨e0, e1, e2, e3, e4, e5⟩ := h6
     have hi0 : (0 : Int) ≤ i := by omega
     have hi1 : (i : Int) < n := by omega
     have hnext : T.depths (t.ks.take (i + 1)) = max (T.depths (t.ks.take i)) u.depth := by rw [take_snoc _ t0 _ (by rw [HN.out]; exact hlt), T.depths_snoc, HU.out]
     have HX := Lib.hid hnext
     clear hin2 hal hnext
     go_wp2_with (go_at_call 40; refine (ih u _ R _ hub (by omega) HI.out).mono ?_; rintro e w2 ⟨rfl, hb2⟩; replace hbw2 := below_on hbw2 hb2)
     go_roundg (n - i)
     case measure => omega
     case rel => exact ⟨i + 1, by omega, by omega, by go_num, by rw [HX.out]; go_num, hbw2⟩
    ·
     obtain rfl : i = n := by omega
     have htk : t.ks.take i = t.ks := by rw [← HN.out, List.take_length]
     rw [htk]
     have hdt := T.depth_le t
     rw [T.depth_eq] at hdt
     have hdd : T.depths t.ks ≤ 1048576 := by have := HB.out; omega
     clear htk
     go_wp2_with fail
     go_ret
     exact ⟨by rw [T.depth_eq]; go_num, hbw⟩
end
section
open Go.RowKit
set_option maxRecDepth 100000 in
set_option maxHeartbeats 1600000 in
theorem rdepth_t : ∀ (N : Nat) (t : T) (w : World) (R : Nat → Prop) (v : Value), t.bulk ≤ N → N ≤ 1048576 → T.In w R t v →
    Calls Tryz.prog 32 #[v] w fun e w' => e = .returned (.int .i64 (t.depth : Nat)) ∧ Below w.heap.size w w'
  | 0, t, _, _, _, hN, _, _ => by have := T.bulk_pos t; omega
  | N + 1, t, w, R, v, hN, hN2, h => by
   have ih := rdepth_t N
   obtain ⟨A1, c1, A2, c2, A3, c3, rfl, hnames, hmag, hc3, hkids⟩ := h.open
   obtain ⟨n, hn⟩ : ∃ n, t.ks.length = n := ⟨_, rfl⟩
   obtain ⟨hl1, hl2, hl3, hl4, hlen⟩ := T.len_le hN
   rw [hn] at hkids hc3 hlen ⊢
   have HN := Lib.hid hn
   have HK := Lib.hid hkids
   have HB := Lib.hid hN
   have HNM := Lib.hid hnames
   have HMG := Lib.hid hmag
   clear hn hkids hN h hnames hmag
   go_enter Tryz.func32, Tryz.ntmps32
   go_upto_region 1 with (fail)
   obtain ⟨W1, hW1, pt, hb1⟩ := made_blk w #[.int .i64 t.k, .string t.nm, .slice A1 t.ns.length c1, .bool t.ng, .slice A2 t.mg.length c2, .slice A3 n c3] 28
   obtain ⟨Bt, hBt⟩ : ∃ b, b = w.heap.size := ⟨_, rfl⟩
   rw [← hW1, ← hBt]
   rw [← hBt] at pt
   clear hW1 hBt
   go_wp2_with fail
   go_loopg [3, 4] (n + 1) (fun gk v3 v4 wr => ∃ i : Nat, gk + i = n + 1 ∧ i ≤ n ∧ v4 = .int .i64 (i : Nat) ∧ v3 = .int .i64 (T.depths (t.ks.take i) : Nat) ∧ Below W1.heap.size W1 wr)
   case atStart => exact ⟨0, by omega, Nat.zero_le _, rfl, rfl, Below.refl _ _⟩
   case round =>
    obtain ⟨i, hi, hin, rfl, rfl, hS⟩ := hrel
    obtain ⟨x0, x1, x2, x3, x4, x5⟩ := (pt.below hS).six
    by_cases hlt : i < n
    ·
     obtain ⟨b, o, rfl, hk⟩ := HK.out (by omega)
     have hkd := hk i hlt
     obtain ⟨u, hu⟩ : ∃ u, t.ks.getD i t0 = u := ⟨_, rfl⟩
     rw [hu] at hkd
     have hub : u.bulk ≤ N := by rw [← hu]; exact T.kid_bulk HB.out (by rw [HN.out]; exact hlt)
     have HU := Lib.hid hu
     clear hk hu
     obtain ⟨B1, d1, B2, d2, B3, d3, h6, hkin⟩ := hkd.below (below_on hb1 hS)
     have HI := Lib.hid hkin
     clear hkin
     obtain ⟨e0, e1, e2, e3, e4, e5⟩ := h6
     have hi0 : (0 : Int) ≤ i := by omega
     have hi1 : (i : Int) < n := by omega
     have hnext : T.depths (t.ks.take (i + 1)) = max (T.depths (t.ks.take i)) u.depth := by rw [take_snoc _ t0 _ (by rw [HN.out]; exact hlt), T.depths_snoc, HU.out]
     have HX := Lib.hid hnext
     clear hnext
     by_cases hd : T.depths (t.ks.take i) < u.depth
     · have q1 : decide ((u.depth : Int) > T.depths (t.ks.take i)) = true := decide_eq_true (by omega)
       have q2 : decide (T.depths (t.ks.take i) < u.depth) = true := decide_eq_true hd
       go_wp2_with (go_at_call 32; refine (ih u _ R _ hub (by omega) HI.out).mono ?_; rintro e w2 ⟨rfl, hb2⟩; have hS2 := below_on hS hb2)
       go_roundg (n - i)
       case measure => omega
       case rel => exact ⟨i + 1, by omega, by omega, by go_num, by rw [HX.out]; go_num, hS2⟩
     · have q1 : decide ((u.depth : Int) > T.depths (t.ks.take i)) = false := decide_eq_false (by omega)
       have q2 : decide (T.depths (t.ks.take i) < u.depth) = false := decide_eq_false hd
       go_wp2_with (go_at_call 32; refine (ih u _ R _ hub (by omega) HI.out).mono ?_; rintro e w2 ⟨rfl, hb2⟩; have hS2 := below_on hS hb2)
       go_roundg (n - i)
       case measure => omega
       case rel => exact ⟨i + 1, by omega, by omega, by go_num, by rw [HX.out]; go_num, hS2⟩
    ·
     obtain rfl : i = n := by omega
     have htk : t.ks.take i = t.ks := by rw [← HN.out, List.take_length]
     rw [htk]
     have hdt := T.depth_le t
     rw [T.depth_eq] at hdt
     have hdd : T.depths t.ks ≤ 1048576 := by have := HB.out; omega
     clear htk
     go_wp2_with fail
     go_ret
     exact ⟨by rw [T.depth_eq]; go_num, below_on hb1 hS⟩
end
section
open Go.RowKit
mutual
def T.size : T → Nat
 | .node _ _ _ _ _ ks => T.sizes ks + 1
def T.sizes : List T → Nat
 | [] => 0
 | t :: r => t.size + T.sizes r
end
theorem T.size_eq (t : T) : t.size = T.sizes t.ks + 1 := by cases t; simp [T.size, T.ks]
theorem T.sizes_snoc : ∀ (l : List T) (t : T), T.sizes (l ++ [t]) = T.sizes l + t.size
 | [], t => by simp [T.sizes]
 | u :: r, t => by simp [T.sizes, T.sizes_snoc r t]; omega
theorem T.sizes_take : ∀ (l : List T) (i : Nat), T.sizes (l.take i) ≤ T.sizes l
 | [], i => by simp
 | t :: r, 0 => by simp [T.sizes]
 | t :: r, i + 1 => by have := T.sizes_take r i; simp [T.sizes]; omega
set_option maxRecDepth 100000 in
set_option maxHeartbeats 1600000 in
theorem size_t : ∀ (N : Nat) (t : T) (w : World) (R : Nat → Prop) (v : Value), t.bulk ≤ N → N ≤ 1048576 → T.In w R t v →
    Calls Tryz.prog 24 #[v] w fun e w' => e = .returned (.int .i64 ((min t.size 3001 : Nat))) ∧ Below w.heap.size w w'
  | 0, t, _, _, _, hN, _, _ => by have := T.bulk_pos t; omega
  | N + 1, t, w, R, v, hN, hN2, h => by
   have ih := size_t N
   obtain ⟨A1, c1, A2, c2, A3, c3, rfl, hnames, hmag, hc3, hkids⟩ := h.open
   obtain ⟨n, hn⟩ : ∃ n, t.ks.length = n := ⟨_, rfl⟩
   obtain ⟨hl1, hl2, hl3, hl4, hlen⟩ := T.len_le hN
   rw [hn] at hkids hc3 hlen ⊢
   have HN := Lib.hid hn
   have HK := Lib.hid hkids
   have HB := Lib.hid hN
   have HNM := Lib.hid hnames
   have HMG := Lib.hid hmag
   clear hn hkids hN h hnames hmag
   go_enter Tryz.func24, Tryz.ntmps24
   go_wp2_with fail
   go_loopg [3, 9] (n + 1) (fun gk v3 v9 wr => ∃ i s : Nat, gk + i = n + 1 ∧ i ≤ n ∧ v9 = .int .i64 (i : Nat) ∧ v3 = .int .i64 (s : Nat) ∧ s ≤ 6001 ∧ Hid (min s 3001 = min (T.sizes (t.ks.take i) + 1) 3001) ∧ Below w.heap.size w wr)
   case atStart => exact ⟨0, 1, by omega, Nat.zero_le _, rfl, rfl, by omega, Lib.hid (by simp [T.sizes]), below_alloc1 _ _⟩
   case round =>
    obtain ⟨i, s, hi, hin, rfl, rfl, hs, HS, hbw⟩ := hrel
    by_cases hlt : i < n
    ·
     by_cases h3 : 3000 < s
     ·
      obtain ⟨b, o, rfl, hk⟩ := HK.out (by omega)
      have hkd := hk i hlt
      obtain ⟨B1, d1, B2, d2, B3, d3, h6, _⟩ := hkd.below hbw
      clear hk hkd
      obtain ⟨u, hu⟩ : ∃ u, t.ks.getD i t0 = u := ⟨_, rfl⟩
      rw [hu] at h6
      clear hu
      obtain ⟨e0, e1, e2, e3, e4, e5⟩ := h6
      have hi0 : (0 : Int) ≤ i := by omega
      have hi1 : (i : Int) < n := by omega
      have q1 : decide ((s : Int) > 3000) = true := decide_eq_true (by omega)
      have q2 : decide (3000 < s) = true := decide_eq_true h3
      have hal := below_alloc1 wr (.cells #[.int .i64 u.k, .string u.nm, .slice B1 u.ns.length d1, .bool u.ng, .slice B2 u.mg.length d2, .slice B3 u.ks.length d3] 28)
      have hres : min t.size 3001 = min s 3001 := by
       have h1 := HS.out
       have h2 := T.sizes_take t.ks i
       rw [T.size_eq]
       omega
      have HR := Lib.hid hres
      have hbw2 := below_on hbw hal
      clear hres hal
      go_wp2_with fail
      go_ret
      exact ⟨by rw [HR.out]; go_num, hbw2⟩
     ·
      obtain ⟨b, o, rfl, hk⟩ := HK.out (by omega)
      have hkd := hk i hlt
      obtain ⟨u, hu⟩ : ∃ u, t.ks.getD i t0 = u := ⟨_, rfl⟩
      rw [hu] at hkd
      have hub : u.bulk ≤ N := by rw [← hu]; exact T.kid_bulk HB.out (by rw [HN.out]; exact hlt)
      have HU := Lib.hid hu
      clear hk hu
      obtain ⟨B1, d1, B2, d2, B3, d3, h6, hkin⟩ := hkd.below hbw
      have HI := Lib.hid hkin
      clear hkin
      obtain ⟨e0, e1, e2, e3, e4, e5⟩ := h6
      have hi0 : (0 : Int) ≤ i := by omega
      have hi1 : (i : Int) < n := by omega
      have hal := below_alloc1 wr (.cells #[.int .i64 u.k, .string u.nm, .slice B1 u.ns.length d1, .bool u.ng, .slice B2 u.mg.length d2, .slice B3 u.ks.length d3] 28)
      have HI2 := Lib.hid (HI.out.below hal)
      have hbw2 := below_on hbw hal
      have q1 : decide ((s : Int) > 3000) = false := decide_eq_false (by omega)
      have q2 : decide (3000 < s) = false := decide_eq_false h3
      obtain ⟨z, hz⟩ : ∃ z, min u.size 3001 = z := ⟨_, rfl⟩
      have hz3 : z ≤ 3001 := by omega
      have hnext : min (s + z) 3001 = min (T.sizes (t.ks.take (i + 1)) + 1) 3001 := by
       rw [take_snoc _ t0 _ (by rw [HN.out]; exact hlt), T.sizes_snoc, HU.out]
       have := HS.out
       omega
      have HX := Lib.hid hnext
      have HZ := Lib.hid hz
      clear hnext hal hz
      go_wp2_with (go_at_call 24; refine (ih u _ R _ hub (by omega) HI2.out).mono ?_; rw [HZ.out]; rintro e w2 ⟨rfl, hb2⟩; replace hbw2 := below_on hbw2 hb2)
      go_roundg (n - i)
      case measure => omega
      case rel => exact ⟨i + 1, s + z, by omega, by omega, by go_num, by go_num, by omega, HX, hbw2⟩
    ·
     obtain rfl : i = n := by omega
     have hres : min t.size 3001 = min s 3001 := by
      have htk : t.ks.take i = t.ks := by rw [← HN.out, List.take_length]
      have := HS.out
      rw [htk] at this
      rw [T.size_eq, this]
     have HR := Lib.hid hres
     clear hres
     go_wp2_with fail
     go_ret
     exact ⟨by rw [HR.out]; go_num, hbw⟩
end
section
open Go.RowKit
def bareB (ng : Bool) (mg : List Nat) : Bool := !ng && mg.length == 0
mutual
def T.none : T → Bool
 | .node k _ _ ng mg ks => (k == 15 && bareB ng mg) || T.nones ks
def T.nones : List T → Bool
 | [] => false
 | t :: r => t.none || T.nones r
end
theorem T.none_eq (t : T) : t.none = ((t.k == 15 && bareB t.ng t.mg) || T.nones t.ks) := by cases t; simp [T.none, T.k, T.ng, T.mg, T.ks]
theorem T.nones_snoc : ∀ (l : List T) (t : T), T.nones (l ++ [t]) = (T.nones l || t.none)
 | [], t => by simp [T.nones]
 | u :: r, t => by simp [T.nones, T.nones_snoc r t, Bool.or_assoc]
theorem T.nones_get : ∀ (l : List T) (i : Nat), i < l.length → (l.getD i t0).none = true → T.nones l = true
 | [], i, h, _ => absurd h (by simp)
 | t :: r, 0, _, h => by simp at h; simp [T.nones, h]
 | t :: r, i + 1, h, h2 => by
  have := T.nones_get r i (by simpa using h) (by simpa using h2)
  simp [T.nones, this]
set_option maxRecDepth 100000 in
theorem bare_x (w : World) (ng : Bool) (A : Option Addr) (c : Nat) (mg : List Nat) :
    Calls Tryz.prog 85 #[.agg #[.bool ng, .slice A mg.length c]] w fun e w' => e = .returned (.bool (bareB ng mg)) ∧ Below w.heap.size w w' := by
  obtain ⟨G, hG⟩ : ∃ G, bareB ng mg = G := ⟨_, rfl⟩
  rw [hG]
  obtain ⟨n, hn⟩ : ∃ n, mg.length = n := ⟨_, rfl⟩
  unfold bareB at hG
  rw [hn] at hG ⊢
  have hbw := below_alloc1 w (.cells #[.bool ng, .slice A n c] 25)
  have HG := Lib.hid hG
  clear hG hn
  cases ng
  ·
   by_cases h0 : n = 0
   · subst h0
     go_enter Tryz.func85, Tryz.ntmps85
     go_wp2_with fail
     go_ret
     exact ⟨by rw [← HG.out]; rfl, hbw⟩
   · have h1 : ((n : Int) == 0) = false := by simp; omega
     go_enter Tryz.func85, Tryz.ntmps85
     go_wp2_with fail
     go_ret
     exact ⟨by rw [← HG.out]; simp [h0], hbw⟩
  · go_enter Tryz.func85, Tryz.ntmps85
    go_wp2_with fail
    go_ret
    exact ⟨by rw [← HG.out]; rfl, hbw⟩
set_option maxRecDepth 100000 in
theorem zero_r (w : World) (ng : Bool) (A : Option Addr) (c : Nat) (mg : List Nat) :
    Calls Tryz.prog 91 #[.agg #[.bool ng, .slice A mg.length c]] w fun e w' => e = .returned (.bool (bareB ng mg)) ∧ Below w.heap.size w w' := by
  obtain ⟨G, hG⟩ : ∃ G, bareB ng mg = G := ⟨_, rfl⟩
  rw [hG]
  obtain ⟨n, hn⟩ : ∃ n, mg.length = n := ⟨_, rfl⟩
  unfold bareB at hG
  rw [hn] at hG ⊢
  have hbw := below_alloc1 w (.cells #[.bool ng, .slice A n c] 25)
  have HG := Lib.hid hG
  clear hG hn
  cases ng
  ·
   by_cases h0 : n = 0
   · subst h0
     go_enter Tryz.func91, Tryz.ntmps91
     go_wp2_with fail
     go_ret
     exact ⟨by rw [← HG.out]; rfl, hbw⟩
   · have h1 : ((n : Int) == 0) = false := by simp; omega
     go_enter Tryz.func91, Tryz.ntmps91
     go_wp2_with fail
     go_ret
     exact ⟨by rw [← HG.out]; simp [h0], hbw⟩
  · go_enter Tryz.func91, Tryz.ntmps91
    go_wp2_with fail
    go_ret
    exact ⟨by rw [← HG.out]; rfl, hbw⟩
set_option maxRecDepth 100000 in
set_option maxHeartbeats 1600000 in
theorem index_none (N : Nat) (hN2 : N ≤ 1048576) (ih : ∀ (t : T) (w : World) (R : Nat → Prop) (v : Value), t.bulk ≤ N → N ≤ 1048576 → T.In w R t v → Calls Tryz.prog 47 #[v] w fun e w' => e = .returned (.bool t.none) ∧ Below w.heap.size w w')
    (w : World) (R : Nat → Prop) (A : Option Addr) (c : Nat) (ks : List T) (hcap : ks.length ≤ c) (hl : ks.length ≤ 1048576) (hkid : 0 < ks.length → ∃ b o, A = some ⟨b, o, Option.none⟩ ∧ ∀ i, i < ks.length → KidAt w R b (o + i * 6) (ks.getD i t0)) (hb : ∀ i, i < ks.length → (ks.getD i t0).bulk ≤ N) :
    Calls Tryz.prog 120 #[.slice A ks.length c, .func (.func 47) #[] #[]] w fun e w' => ∃ z : Int, e = .returned (.int .i64 z) ∧ decide (0 ≤ z) = T.nones ks ∧ Below w.heap.size w w' := by
  obtain ⟨n, hn⟩ : ∃ n, ks.length = n := ⟨_, rfl⟩
  rw [hn] at hcap hl hkid hb ⊢
  have HN := Lib.hid hn
  have HK := Lib.hid hkid
  have HB := Lib.hid hb
  clear hn hkid hb
  go_enter Tryz.func120, Tryz.ntmps120
  go_wp2_with fail
  go_loopg [8] (n + 1) (fun gk v8 wr => ∃ i : Nat, gk + i = n + 1 ∧ i ≤ n ∧ v8 = .int .i64 (i : Nat) ∧ Hid (T.nones (ks.take i) = false) ∧ Below w.heap.size w wr)
  case atStart => exact ⟨0, by omega, Nat.zero_le _, rfl, Lib.hid (by simp [T.nones]), Below.refl _ _⟩
  case round =>
   obtain ⟨i, hi, hin, rfl, HS, hbw⟩ := hrel
   by_cases hlt : i < n
   ·
    obtain ⟨b, o, rfl, hk⟩ := HK.out (by omega)
    have hkd := hk i hlt
    have hub := HB.out i hlt
    have hget := T.nones_get ks i (by rw [HN.out]; exact hlt)
    have hsn := T.nones_snoc (ks.take i) (ks.getD i t0)
    rw [← take_snoc _ t0 _ (by rw [HN.out]; exact hlt)] at hsn
    obtain ⟨u, hu⟩ : ∃ u, ks.getD i t0 = u := ⟨_, rfl⟩
    rw [hu] at hkd hub hget hsn
    have HGET := Lib.hid hget
    have HSN := Lib.hid hsn
    clear hk hu hget hsn
    obtain ⟨B1, d1, B2, d2, B3, d3, h6, hkin⟩ := hkd.below hbw
    have HI := Lib.hid hkin
    clear hkin
    obtain ⟨e0, e1, e2, e3, e4, e5⟩ := h6
    have hi0 : (0 : Int) ≤ i := by omega
    have hi1 : (i : Int) < n := by omega
    obtain ⟨r, hr⟩ : ∃ r, u.none = r := ⟨_, rfl⟩
    have HR := Lib.hid hr
    clear hr
    cases r
    · go_wp2_with (go_at_call 47; refine (ih u _ R _ hub (by omega) HI.out).mono ?_; rw [HR.out]; rintro e w2 ⟨rfl, hb2⟩; have hbw2 := below_on hbw hb2)
      go_roundg (n - i)
      case measure => omega
      case rel => exact ⟨i + 1, by omega, by omega, by go_num, Lib.hid (by rw [HSN.out, HS.out, HR.out]; rfl), hbw2⟩
    · go_wp2_with (go_at_call 47; refine (ih u _ R _ hub (by omega) HI.out).mono ?_; rw [HR.out]; rintro e w2 ⟨rfl, hb2⟩; have hbw2 := below_on hbw hb2)
      go_ret
      exact ⟨_, rfl, by rw [HGET.out HR.out]; exact decide_eq_true hi0, hbw2⟩
   ·
    obtain rfl : i = n := by omega
    have htk : ks.take i = ks := by rw [← HN.out, List.take_length]
    have hf := HS.out
    rw [htk] at hf
    have HF := Lib.hid hf
    clear htk hf
    go_wp2_with fail
    go_ret
    exact ⟨_, rfl, by rw [HF.out]; rfl, hbw⟩
set_option maxRecDepth 100000 in
theorem contains_none (N : Nat) (hN2 : N ≤ 1048576) (ih : ∀ (t : T) (w : World) (R : Nat → Prop) (v : Value), t.bulk ≤ N → N ≤ 1048576 → T.In w R t v → Calls Tryz.prog 47 #[v] w fun e w' => e = .returned (.bool t.none) ∧ Below w.heap.size w w')
    (w : World) (R : Nat → Prop) (A : Option Addr) (c : Nat) (ks : List T) (hcap : ks.length ≤ c) (hl : ks.length ≤ 1048576) (hkid : 0 < ks.length → ∃ b o, A = some ⟨b, o, Option.none⟩ ∧ ∀ i, i < ks.length → KidAt w R b (o + i * 6) (ks.getD i t0)) (hb : ∀ i, i < ks.length → (ks.getD i t0).bulk ≤ N) :
    Calls Tryz.prog 87 #[.slice A ks.length c, .func (.func 47) #[] #[]] w fun e w' => e = .returned (.bool (T.nones ks)) ∧ Below w.heap.size w w' := by
  have H := Lib.hid (index_none N hN2 ih w R A c ks hcap hl hkid hb)
  obtain ⟨n, hn⟩ : ∃ n, ks.length = n := ⟨_, rfl⟩
  rw [hn] at H ⊢
  clear hkid hb ih hn hcap hl
  go_enter Tryz.func87, Tryz.ntmps87
  go_wp2_with (go_at_call 120; refine H.out.mono ?_; rintro e w2 ⟨z, rfl, hz, hb2⟩)
  go_ret
  exact ⟨by rw [← hz]; simp, hb2⟩
set_option maxRecDepth 100000 in
set_option maxHeartbeats 1600000 in
theorem none_t : ∀ (N : Nat) (t : T) (w : World) (R : Nat → Prop) (v : Value), t.bulk ≤ N → N ≤ 1048576 → T.In w R t v →
    Calls Tryz.prog 47 #[v] w fun e w' => e = .returned (.bool t.none) ∧ Below w.heap.size w w'
  | 0, t, _, _, _, hN, _, _ => by have := T.bulk_pos t; omega
  | N + 1, t, w, R, v, hN, hN2, h => by
   have ih := none_t N
   obtain ⟨A1, c1, A2, c2, A3, c3, rfl, hnames, hmag, hc3, hkids⟩ := h.open
   obtain ⟨n, hn⟩ : ∃ n, t.ks.length = n := ⟨_, rfl⟩
   obtain ⟨hl1, hl2, hl3, hl4, hlen⟩ := T.len_le hN
   rw [hn] at hkids hc3 hlen ⊢
   have HN := Lib.hid hn
   have HK := Lib.hid hkids
   have HB := Lib.hid hN
   have HNM := Lib.hid hnames
   have HMG := Lib.hid hmag
   clear hn hkids hN h hnames hmag
   go_enter Tryz.func47, Tryz.ntmps47
   go_upto_region 1 with (fail)
   obtain ⟨W1, hW1, pt, hb1⟩ := made_blk w #[.int .i64 t.k, .string t.nm, .slice A1 t.ns.length c1, .bool t.ng, .slice A2 t.mg.length c2, .slice A3 n c3] 28
   obtain ⟨Bt, hBt⟩ : ∃ b, b = w.heap.size := ⟨_, rfl⟩
   rw [← hW1, ← hBt]
   rw [← hBt] at pt
   clear hW1 hBt
   have hS := Below.refl W1.heap.size W1
   obtain ⟨x0, x1, x2, x3, x4, x5⟩ := pt.six
   have hcn := contains_none N (by omega) ih
   have HC := Lib.hid hcn
   have hbu : ∀ i, i < t.ks.length → (t.ks.getD i t0).bulk ≤ N := fun i hi => T.kid_bulk HB.out hi
   have HBU := Lib.hid hbu
   clear hcn hbu
   have HCC : Hid (∀ w', Below W1.heap.size W1 w' → Calls Tryz.prog 87 #[.slice A3 n c3, .func (.func 47) #[] #[]] w' fun e w'' => e = .returned (.bool (T.nones t.ks)) ∧ Below w'.heap.size w' w'') := Lib.hid (fun w' hb' => by
    have := HC.out w' R A3 c3 t.ks (by rw [HN.out]; exact hc3) (by rw [HN.out]; omega) (by
     rw [HN.out]
     intro h0
     obtain ⟨b, o, e, hk⟩ := HK.out h0
     exact ⟨b, o, e, fun i hi => (hk i hi).below (below_on hb1 hb')⟩) HBU.out
    rwa [HN.out] at this)
   have HE := Lib.hid (T.none_eq t)
   by_cases hk : t.k = 15
   ·
    have hkk : (t.k == 15) = true := by simp [hk]
    obtain ⟨r, hr⟩ : ∃ r, bareB t.ng t.mg = r := ⟨_, rfl⟩
    have HR := Lib.hid hr
    clear hr hk
    cases r
    · go_wp2_with (first
       | (go_at_call 85; refine (bare_x _ _ _ _ _).mono ?_; rw [HR.out]; rintro e w2 ⟨rfl, hb2⟩; have hS2 := below_on hS hb2; obtain ⟨y0, y1, y2, y3, y4, y5⟩ := (pt.below hb2).six)
       | (go_at_call 87; refine (HCC.out _ hS2).mono ?_; rintro e w3 ⟨rfl, hb3⟩; have hS3 := below_on hS2 hb3))
      go_ret
      exact ⟨by rw [HE.out, HR.out]; simp, below_on hb1 hS3⟩
    · go_wp2_with (first
       | (go_at_call 85; refine (bare_x _ _ _ _ _).mono ?_; rw [HR.out]; rintro e w2 ⟨rfl, hb2⟩; have hS2 := below_on hS hb2))
      go_ret
      exact ⟨by rw [HE.out, hkk, HR.out]; rfl, below_on hb1 hS2⟩
   · have hkk : (t.k == 15) = false := by simp [hk]
     clear hk
     go_wp2_with (go_at_call 87; refine (HCC.out _ hS).mono ?_; rintro e w3 ⟨rfl, hb3⟩; have hS3 := below_on hS hb3)
     go_ret
     exact ⟨by rw [HE.out, hkk]; simp, below_on hb1 hS3⟩
end
section
open Go.RowKit
def okK (k : Int) : Bool := decide (1 ≤ k) && decide (k ≤ 22)
def fmK (k : Int) : Bool := decide (7 ≤ k) && decide (k ≤ 22)
def nameK (k : Int) : Bool := k == 2
def namesK (k : Int) : Bool := k == 21 || k == 22
def numK (k : Int) : Bool := k == 1 || k == 6 || k == 15
def leastK (k : Int) : Int := if k == 1 || k == 2 || k == 7 || k == 8 then 0 else if k == 3 || k == 6 || k == 15 || k == 16 || k == 21 || k == 22 then 1 else 2
def mostK (k : Int) : Int := if k == 1 || k == 2 || k == 7 || k == 8 then 0 else if k == 3 || k == 6 || k == 15 || k == 16 || k == 21 || k == 22 then 1 else if k == 17 || k == 18 then -1 else 2
def innerK (k : Int) : Bool := decide (16 ≤ k)
def termK (k : Int) : Bool := decide (1 ≤ k) && decide (k ≤ 6)
def termsK (k : Int) : Bool := k == 3 || k == 6 || k == 15 || k == 4 || k == 5 || (decide (9 ≤ k) && decide (k ≤ 14))
theorem kinds {k : Int} (h1 : 1 ≤ k) (h2 : k ≤ 22) : k = 1 ∨ k = 2 ∨ k = 3 ∨ k = 4 ∨ k = 5 ∨ k = 6 ∨ k = 7 ∨ k = 8 ∨ k = 9 ∨ k = 10 ∨ k = 11 ∨ k = 12 ∨ k = 13 ∨ k = 14 ∨ k = 15 ∨ k = 16 ∨ k = 17 ∨ k = 18 ∨ k = 19 ∨ k = 20 ∨ k = 21 ∨ k = 22 := by omega
theorem term_r (w : World) (k : Int) : Calls Tryz.prog 48 #[.int .i64 k] w fun e w' => e = .returned (.bool (termK k)) ∧ w' = w := by
 by_cases h1 : 1 ≤ k
 ·
  have d1 : decide (k ≥ 1) = true := decide_eq_true h1
  have d1' : decide (1 ≤ k) = true := decide_eq_true h1
  by_cases h2 : k ≤ 6
  ·
   have d2 : decide (k ≤ 6) = true := decide_eq_true h2
   have e : termK k = true := by simp [termK, d1', d2]
   rw [e]
   clear e h1 h2
   go_enter Tryz.func48, Tryz.ntmps48
   go_wp2_with fail
   go_ret
   exact ⟨rfl, rfl⟩
  ·
   have d2 : decide (k ≤ 6) = false := decide_eq_false h2
   have e : termK k = false := by simp [termK, d1', d2]
   rw [e]
   clear e h1 h2
   go_enter Tryz.func48, Tryz.ntmps48
   go_wp2_with fail
   go_ret
   exact ⟨rfl, rfl⟩
 ·
  have d1 : decide (k ≥ 1) = false := decide_eq_false h1
  have d1' : decide (1 ≤ k) = false := decide_eq_false h1
  have e : termK k = false := by simp [termK, d1']
  rw [e]
  clear e h1
  go_enter Tryz.func48, Tryz.ntmps48
  go_wp2_with fail
  go_ret
  exact ⟨rfl, rfl⟩
set_option maxHeartbeats 3200000 in
theorem kids_r (w : World) (k : Int) (h1 : 1 ≤ k) (h2 : k ≤ 22) : Calls Tryz.prog 92 #[.int .i64 k] w fun e w' => e = .returned (.tuple #[.int .i64 (leastK k), .int .i64 (mostK k), .bool (termsK k)]) ∧ w' = w := by
 rcases kinds h1 h2 with rfl | rfl | rfl | rfl | rfl | rfl | rfl | rfl | rfl | rfl | rfl | rfl | rfl | rfl | rfl | rfl | rfl | rfl | rfl | rfl | rfl | rfl
 all_goals
  clear h1 h2
  go_enter Tryz.func92, Tryz.ntmps92
  go_wp2_with fail
  go_ret3
  exact ⟨rfl, rfl⟩
theorem sizeShape : (Tryz.prog.info? 116).map (·.size) = some 7 := by kernel_rfl
theorem results_shape {fn : Func} {p u : Tmp} (h : fn.results = #[.cell p 116, .tmp u]) (tmps : Array Value) (w : World) (g : Nat) (t : TypeId) (a0 a1 a2 a3 a4 a5 a6 : Value)
    (hp : tmps.getD p undef = .pointer (some ⟨g, 0, none⟩)) (hg : Blk w g t #[a0, a1, a2, a3, a4, a5, a6]) : (results fn tmps).run Tryz.prog w = .ok (.tuple #[.agg #[a0, a1, a2, a3, a4, a5, a6], tmps.getD u undef]) w := by
  have hp' : tmps[p]?.getD undef = .pointer (some ⟨g, 0, none⟩) := by simpa using hp
  simp [results, h, hp', asAddr, run_loadVar_row w g _ 116 _ _ _ hg Tryz.underlying116 rfl sizeShape]
set_option maxHeartbeats 3200000 in
theorem shaped_x (w : World) (k : Int) : Calls Tryz.prog 81 #[.int .i64 k] w fun e w' => (okK k = true → e = .returned (.tuple #[.agg #[.bool (nameK k), .bool (namesK k), .bool (numK k), .int .i64 (leastK k), .int .i64 (mostK k), .bool (innerK k), .bool (fmK k)], .bool true])) ∧ (okK k = false → ∃ s0 s1 s2 s3 s4 s5 s6, e = .returned (.tuple #[.agg #[.bool s0, .bool s1, .bool s2, .int .i64 s3, .int .i64 s4, .bool s5, .bool s6], .bool false])) ∧ Below w.heap.size w w' := by
 by_cases h1 : 1 ≤ k ∧ k ≤ 22
 ·
  rcases kinds h1.1 h1.2 with rfl | rfl | rfl | rfl | rfl | rfl | rfl | rfl | rfl | rfl | rfl | rfl | rfl | rfl | rfl | rfl | rfl | rfl | rfl | rfl | rfl | rfl
  all_goals
   clear h1
   go_enter Tryz.func81, Tryz.ntmps81
   go_wp2_with fail
   refine bodyPost_ret (results_shape rfl _ _ w.heap.size _ _ _ _ _ _ _ _ rfl ((Blk.new _ _ _).below (below_alloc1 _ _))) rfl ?_
   exact ⟨fun _ => rfl, fun h => absurd h (by decide), below_on (below_alloc1 _ _) (below_alloc1 _ _)⟩
 ·
  have hok : okK k = false := by
   unfold okK
   by_cases h2 : 1 ≤ k
   · rw [decide_eq_false (show ¬ k ≤ 22 from fun h => h1 ⟨h2, h⟩)]; simp
   · rw [decide_eq_false h2]; simp
  have HOK := Lib.hid hok
  clear hok
  have n1 : (k == 1) = false := by simp; omega
  have n2 : (k == 2) = false := by simp; omega
  have n3 : (k == 3) = false := by simp; omega
  have n4 : (k == 4) = false := by simp; omega
  have n5 : (k == 5) = false := by simp; omega
  have n6 : (k == 6) = false := by simp; omega
  have n7 : (k == 7) = false := by simp; omega
  have n8 : (k == 8) = false := by simp; omega
  have n9 : (k == 9) = false := by simp; omega
  have n10 : (k == 10) = false := by simp; omega
  have n11 : (k == 11) = false := by simp; omega
  have n12 : (k == 12) = false := by simp; omega
  have n13 : (k == 13) = false := by simp; omega
  have n14 : (k == 14) = false := by simp; omega
  have n15 : (k == 15) = false := by simp; omega
  have n16 : (k == 16) = false := by simp; omega
  have n17 : (k == 17) = false := by simp; omega
  have n18 : (k == 18) = false := by simp; omega
  have n19 : (k == 19) = false := by simp; omega
  have n20 : (k == 20) = false := by simp; omega
  have n21 : (k == 21) = false := by simp; omega
  have n22 : (k == 22) = false := by simp; omega
  clear h1
  go_enter Tryz.func81, Tryz.ntmps81
  go_wp2_with fail
  refine bodyPost_ret (results_shape rfl _ _ w.heap.size _ _ _ _ _ _ _ _ rfl ((Blk.new _ _ _).below (below_alloc1 _ _))) rfl ?_
  exact ⟨fun h => (by rw [HOK.out] at h; cases h), fun _ => ⟨_, _, _, _, _, _, _, rfl⟩, below_on (below_alloc1 _ _) (below_alloc1 _ _)⟩
end
section
open Go.RowKit
def nameB (s : ByteArray) : Bool := X.name s.data.toList
def namesB (ns : List ByteArray) : Bool := ns.all nameB
theorem namesB_snoc (l : List ByteArray) (s : ByteArray) : namesB (l ++ [s]) = (namesB l && nameB s) := by simp [namesB]
theorem namesB_get : ∀ (l : List ByteArray) (i : Nat), i < l.length → nameB (l.getD i ⟨#[]⟩) = false → namesB l = false
 | [], i, h, _ => absurd h (by simp)
 | t :: r, 0, _, h => by simp at h; simp [namesB, h]
 | t :: r, i + 1, h, h2 => by
  have := namesB_get r i (by simpa using h) (by simpa using h2)
  simp [namesB] at this ⊢
  intro _
  exact this
theorem StrL.below {w w' : World} {R : Nat → Prop} {A : Option Addr} {c : Nat} {ns : List ByteArray} (h : StrL w R A c ns) (hb : Below w.heap.size w w') : StrL w' R A c ns := h.keep (fun _ _ _ hp => keep_cell hp hb) (fun _ h => h)
theorem SlR.below {w w' : World} {R : Nat → Prop} {A : Option Addr} {c : Nat} {l : List Nat} (h : SlR w R A c l) (hb : Below w.heap.size w w') : SlR w' R A c l := h.keep (fun _ _ _ hp => keep_cell hp hb) (fun _ h => h)
set_option maxRecDepth 100000 in
set_option maxHeartbeats 1600000 in
theorem names_r (w : World) (R : Nat → Prop) (A : Option Addr) (c : Nat) (ns : List ByteArray) (h : StrL w R A c ns) (hb : sbulk ns ≤ 1048576) :
    Calls Tryz.prog 89 #[.slice A ns.length c] w fun e w' => e = .returned (.bool (namesB ns && decide (0 < ns.length))) ∧ w' = w := by
  have hl := sbulk_len ns
  obtain ⟨hcap, hc⟩ := h
  obtain ⟨n, hn⟩ : ∃ n, ns.length = n := ⟨_, rfl⟩
  rw [hn] at hcap hc hl ⊢
  have HN := Lib.hid hn
  have HK := Lib.hid hc
  clear hn hc
  go_enter Tryz.func89, Tryz.ntmps89
  go_wp2_with fail
  go_loopg [3] (n + 1) (fun gk v3 wr => ∃ i : Nat, gk + i = n + 1 ∧ i ≤ n ∧ v3 = .int .i64 (i : Nat) ∧ Hid (namesB (ns.take i) = true) ∧ wr = w)
  case atStart => exact ⟨0, by omega, Nat.zero_le _, rfl, Lib.hid rfl, rfl⟩
  case round =>
   obtain ⟨i, hi, hin, rfl, HS, rfl⟩ := hrel
   by_cases hlt : i < n
   ·
    obtain ⟨b, o, rfl, _, hk⟩ := HK.out (by omega)
    have e0 := hk i hlt
    have hsz := sbulk_get ns i (by rw [HN.out]; exact hlt)
    have hget := namesB_get ns i (by rw [HN.out]; exact hlt)
    have hsn := namesB_snoc (ns.take i) (ns.getD i ⟨#[]⟩)
    rw [← take_snoc _ _ _ (by rw [HN.out]; exact hlt)] at hsn
    obtain ⟨s, hs⟩ : ∃ s, ns.getD i ⟨#[]⟩ = s := ⟨_, rfl⟩
    rw [hs] at e0 hsz hget hsn
    have HGET := Lib.hid hget
    have HSN := Lib.hid hsn
    clear hk hs hget hsn
    have hi0 : (0 : Int) ≤ i := by omega
    have hi1 : (i : Int) < n := by omega
    have hi2 : decide (i < n) = true := decide_eq_true hlt
    obtain ⟨r, hr⟩ : ∃ r, nameB s = r := ⟨_, rfl⟩
    have HR := Lib.hid hr
    clear hr
    cases r
    · go_wp2_with (go_at_call 88; refine (isname_r _ s (by omega)).mono ?_; rw [show X.name s.data.toList = false from HR.out]; rintro e w2 ⟨rfl, rfl⟩)
      go_ret
      exact ⟨by rw [HGET.out HR.out]; rfl, rfl⟩
    · go_wp2_with (go_at_call 88; refine (isname_r _ s (by omega)).mono ?_; rw [show X.name s.data.toList = true from HR.out]; rintro e w2 ⟨rfl, rfl⟩)
      go_roundg (n - i)
      case measure => omega
      case rel => exact ⟨i + 1, by omega, by omega, by go_num, Lib.hid (by rw [HSN.out, HS.out, HR.out]; rfl), rfl⟩
   ·
    obtain rfl : i = n := by omega
    have htk : ns.take i = ns := by rw [← HN.out, List.take_length]
    have hf := HS.out
    rw [htk] at hf
    have HF := Lib.hid hf
    clear htk hf
    go_wp2_with fail
    go_ret
    exact ⟨by rw [HF.out]; simp, rfl⟩
set_option maxRecDepth 100000 in
theorem made1_x (w : World) (s : ByteArray) (hs : s.size ≤ 1048576) :
    Calls Tryz.prog 84 #[.string s] w fun e w' => e = .returned (.bool (!nameB s)) ∧ w' = w := by
  go_enter Tryz.func84, Tryz.ntmps84
  go_wp2_with (go_at_call 82; refine (isname_x _ s (by omega)).mono ?_; rintro e w2 ⟨rfl, rfl⟩)
  go_ret
  exact ⟨rfl, rfl⟩
set_option maxRecDepth 100000 in
set_option maxHeartbeats 1600000 in
theorem index_names (w : World) (R : Nat → Prop) (A : Option Addr) (c : Nat) (ns : List ByteArray) (h : StrL w R A c ns) (hb : sbulk ns ≤ 1048576) :
    Calls Tryz.prog 119 #[.slice A ns.length c, .func (.func 84) #[] #[]] w fun e w' => ∃ z : Int, e = .returned (.int .i64 z) ∧ decide (0 ≤ z) = !namesB ns ∧ w' = w := by
  have hl := sbulk_len ns
  obtain ⟨hcap, hc⟩ := h
  obtain ⟨n, hn⟩ : ∃ n, ns.length = n := ⟨_, rfl⟩
  rw [hn] at hcap hc hl ⊢
  have HN := Lib.hid hn
  have HK := Lib.hid hc
  clear hn hc
  go_enter Tryz.func119, Tryz.ntmps119
  go_wp2_with fail
  go_loopg [8] (n + 1) (fun gk v8 wr => ∃ i : Nat, gk + i = n + 1 ∧ i ≤ n ∧ v8 = .int .i64 (i : Nat) ∧ Hid (namesB (ns.take i) = true) ∧ wr = w)
  case atStart => exact ⟨0, by omega, Nat.zero_le _, rfl, Lib.hid rfl, rfl⟩
  case round =>
   obtain ⟨i, hi, hin, rfl, HS, rfl⟩ := hrel
   by_cases hlt : i < n
   ·
    obtain ⟨b, o, rfl, _, hk⟩ := HK.out (by omega)
    have e0 := hk i hlt
    have hsz := sbulk_get ns i (by rw [HN.out]; exact hlt)
    have hget := namesB_get ns i (by rw [HN.out]; exact hlt)
    have hsn := namesB_snoc (ns.take i) (ns.getD i ⟨#[]⟩)
    rw [← take_snoc _ _ _ (by rw [HN.out]; exact hlt)] at hsn
    obtain ⟨s, hs⟩ : ∃ s, ns.getD i ⟨#[]⟩ = s := ⟨_, rfl⟩
    rw [hs] at e0 hsz hget hsn
    have HGET := Lib.hid hget
    have HSN := Lib.hid hsn
    clear hk hs hget hsn
    have hi0 : (0 : Int) ≤ i := by omega
    have hi1 : (i : Int) < n := by omega
    obtain ⟨r, hr⟩ : ∃ r, nameB s = r := ⟨_, rfl⟩
    have HR := Lib.hid hr
    clear hr
    cases r
    · go_wp2_with (go_at_call 84; refine (made1_x _ s (by omega)).mono ?_; rw [HR.out]; rintro e w2 ⟨rfl, rfl⟩)
      go_ret
      exact ⟨_, rfl, by rw [HGET.out HR.out]; exact decide_eq_true hi0, rfl⟩
    · go_wp2_with (go_at_call 84; refine (made1_x _ s (by omega)).mono ?_; rw [HR.out]; rintro e w2 ⟨rfl, rfl⟩)
      go_roundg (n - i)
      case measure => omega
      case rel => exact ⟨i + 1, by omega, by omega, by go_num, Lib.hid (by rw [HSN.out, HS.out, HR.out]; rfl), rfl⟩
   ·
    obtain rfl : i = n := by omega
    have htk : ns.take i = ns := by rw [← HN.out, List.take_length]
    have hf := HS.out
    rw [htk] at hf
    have HF := Lib.hid hf
    clear htk hf
    go_wp2_with fail
    go_ret
    exact ⟨_, rfl, by rw [HF.out]; rfl, rfl⟩
set_option maxRecDepth 100000 in
theorem contains_names (w : World) (R : Nat → Prop) (A : Option Addr) (c : Nat) (ns : List ByteArray) (h : StrL w R A c ns) (hb : sbulk ns ≤ 1048576) :
    Calls Tryz.prog 83 #[.slice A ns.length c, .func (.func 84) #[] #[]] w fun e w' => e = .returned (.bool (!namesB ns)) ∧ w' = w := by
  have H := Lib.hid (index_names w R A c ns h hb)
  obtain ⟨n, hn⟩ : ∃ n, ns.length = n := ⟨_, rfl⟩
  rw [hn] at H ⊢
  clear hb h hn
  go_enter Tryz.func83, Tryz.ntmps83
  go_wp2_with (go_at_call 119; refine H.out.mono ?_; rintro e w2 ⟨z, rfl, hz, rfl⟩)
  go_ret
  exact ⟨by rw [← hz]; simp, rfl⟩
def standsB (ng : Bool) (mg : List Nat) : Bool := !ng && (mg.length == 0 || N.dg mg (mg.length - 1) != 0)
set_option maxRecDepth 100000 in
set_option maxHeartbeats 1600000 in
theorem stands_r (w : World) (R : Nat → Prop) (ng : Bool) (A : Option Addr) (c : Nat) (mg : List Nat) (h : SlR w R A c mg) (hl : mg.length ≤ 1048576) :
    Calls Tryz.prog 90 #[.agg #[.bool ng, .slice A mg.length c]] w fun e w' => e = .returned (.bool (standsB ng mg)) ∧ Below w.heap.size w w' := by
  obtain ⟨G, hG⟩ : ∃ G, standsB ng mg = G := ⟨_, rfl⟩
  rw [hG]
  unfold standsB at hG
  obtain ⟨n, hn⟩ : ∃ n, mg.length = n := ⟨_, rfl⟩
  have hs := h.1
  rw [hn] at hG hs hl ⊢
  have hbw := below_alloc1 w (.cells #[.bool ng, .slice A n c] 25)
  have HG := Lib.hid hG
  clear hG h
  cases ng
  ·
   by_cases h0 : n = 0
   · subst h0
     clear hn hs
     go_enter Tryz.func90, Tryz.ntmps90
     go_wp2_with fail
     go_ret
     exact ⟨by rw [← HG.out]; rfl, hbw⟩
   ·
    have h1 : ((n : Int) == 0) = false := by simp; omega
    obtain ⟨b, o, rfl, hc⟩ := (hs.below hbw).cells (by omega)
    have hck := hc (n - 1) (by omega)
    have hi : (0 : Int) ≤ (n : Int) - 1 := by omega
    have hi2 : (n : Int) - 1 < n := by omega
    have hi3 : ((n : Int) - 1).toNat = n - 1 := by omega
    have hw1 : IntKind.i64.wrap ((n : Int) - 1) = (n : Int) - 1 := by simp [IntKind.wrap, IntKind.bits, IntKind.signed]; omega
    obtain ⟨d, hd⟩ : ∃ d, N.dg mg (n - 1) = d := ⟨_, rfl⟩
    rw [hd] at hck
    have HD := Lib.hid hd
    clear hd hc hs hn
    by_cases hd0 : d = 0
    · subst hd0
      go_enter Tryz.func90, Tryz.ntmps90
      go_wp2_with fail
      go_ret
      exact ⟨by rw [← HG.out, HD.out]; simp [h0], hbw⟩
    · have ht : ((d : Int) != 0) = true := by simp [hd0]
      go_enter Tryz.func90, Tryz.ntmps90
      go_wp2_with fail
      go_ret
      exact ⟨by rw [← HG.out, HD.out]; simp [hd0], hbw⟩
  · clear hs hn
    go_enter Tryz.func90, Tryz.ntmps90
    go_wp2_with fail
    go_ret
    exact ⟨by rw [← HG.out]; rfl, hbw⟩
end
section
open Go.RowKit
theorem info_tree : (Tryz.prog.info? 28).map (fun i => (i.zero, i.size, i.bytes)) = some (some (.agg #[.int .i64 0, .string ⟨#[]⟩, .slice none 0 0, .bool false, .slice none 0 0, .slice none 0 0]), 6, 104) := by kernel_rfl
abbrev Kc := Value × Value × Value × Value × Value × Value
def kcl (r : Kc) : List Value := [r.1, r.2.1, r.2.2.1, r.2.2.2.1, r.2.2.2.2.1, r.2.2.2.2.2]
def kc0 : Kc := (.int .i64 0, .string ⟨#[]⟩, .slice none 0 0, .bool false, .slice none 0 0, .slice none 0 0)
def kcs (rs : List Kc) : List Value := rs.flatMap kcl
def kz6 : Array Value := #[.int .i64 0, .string ⟨#[]⟩, .slice none 0 0, .bool false, .slice none 0 0, .slice none 0 0]
def kzs (k : Nat) : List Value := (Builtin.zeroCells kz6 k).toList
theorem kcs_length (rs : List Kc) : (kcs rs).length = rs.length * 6 := by
 induction rs with
 | nil => rfl
 | cons r rs ih => simp only [kcs, List.flatMap_cons, List.length_append, kcl, List.length_cons, List.length_nil] at ih ⊢; omega
theorem kcs_append (a b : List Kc) : kcs (a ++ b) = kcs a ++ kcs b := by simp [kcs]
theorem kcs_get (rs : List Kc) (i j : Nat) (h : i < rs.length) (hj : j < 6) : (kcs rs)[i * 6 + j]? = (kcl (rs.getD i kc0))[j]? := by
 induction rs generalizing i with
 | nil => simp at h
 | cons r rs ih =>
  have e : kcs (r :: rs) = kcl r ++ kcs rs := rfl
  have hl : (kcl r).length = 6 := rfl
  cases i with
  | zero => rw [e, List.getElem?_append_left (by rw [hl]; omega)]; simp [List.getD]
  | succ i =>
   rw [e, List.getElem?_append_right (by rw [hl]; omega), hl, show (i + 1) * 6 + j - 6 = i * 6 + j by omega, ih i (by simpa using h)]
   simp [List.getD]
theorem kzs_length (k : Nat) : (kzs k).length = k * 6 := by simp [kzs, Builtin.zeroCells, kz6]
theorem kzs_get (k j : Nat) (h : j < k * 6) : (kzs k)[j]? = some (kz6[j % 6]!) := by
 simp [kzs, Builtin.zeroCells, kz6, h]
theorem kzs_drop (k : Nat) : (kzs (k + 1)).drop 6 = kzs k := by
 apply List.ext_getElem?
 intro j
 rw [List.getElem?_drop]
 rcases Nat.lt_or_ge j (k * 6) with h | h
 · rw [kzs_get _ _ (by omega), kzs_get _ _ h, show (6 + j) % 6 = j % 6 by omega]
 · rw [List.getElem?_eq_none (by rw [kzs_length]; omega), List.getElem?_eq_none (by rw [kzs_length]; omega)]
def OutK (w : World) (base : Nat) (v : Value) (rs : List Kc) : Prop := (v = .slice none 0 0 ∧ rs = []) ∨
 ∃ g cap cur, v = .slice (some ⟨g, 0, none⟩) rs.length cap ∧ base ≤ g ∧ w.heap[g]? = some (.cells cur 28 (0, 0)) ∧ rs.length ≤ cap ∧ cap ≤ maxLen ∧ cur.toList = kcs rs ++ kzs (cap - rs.length)
section
variable {w w' : World} {base : Nat} {v : Value} {rs : List Kc}
theorem OutK.nil (w : World) (base : Nat) : OutK w base (.slice none 0 0) [] := .inl ⟨rfl, rfl⟩
theorem OutK.kept (h : OutK w base v rs) {row : Option Nat} (hg : w.grownBy w' row) (hne : v.ownBlock = none ∨ v.ownBlock ≠ row) : OutK w' base v rs := by
 rcases h with h | ⟨g, cap, cur, rfl, h1, h2, h3⟩
 · exact .inl h
 · refine .inr ⟨g, cap, cur, rfl, h1, (hg.block g (Array.getElem?_eq_some_iff.1 h2).1 ?_).trans h2, h3⟩
   rcases hne with hne | hne
   · cases hne
   · exact hne
theorem OutK.below (h : OutK w base v rs) (hb : Below w.heap.size w w') : OutK w' base v rs := h.kept (gb_of_below hb none) (by cases v.ownBlock <;> simp)
theorem OutK.le (h : OutK w base v rs) {base' : Nat} (hb : base' ≤ base) : OutK w base' v rs := by
 rcases h with h | ⟨g, cap, cur, rfl, h1, h2⟩
 · exact .inl h
 · exact .inr ⟨g, cap, cur, rfl, Nat.le_trans hb h1, h2⟩
theorem OutK.size {g cap : Nat} {cur : Array Value} (hc : cur.toList = kcs rs ++ kzs (cap - rs.length)) (hle : rs.length ≤ cap) (_ : w.heap[g]? = some (.cells cur 28 (0, 0))) : cur.size = cap * 6 := by
 have := congrArg List.length hc
 rw [List.length_append, kcs_length, kzs_length, Array.length_toList] at this
 omega
theorem OutK.cells (h : OutK w base v rs) (hn : 0 < rs.length) : ∃ g cap, v = .slice (some ⟨g, 0, none⟩) rs.length cap ∧ ∀ i, i < rs.length → ∀ j, j < 6 → w.cell? ⟨g, i * 6 + j, none⟩ = (kcl (rs.getD i kc0))[j]? := by
 rcases h with ⟨_, h⟩ | ⟨g, cap, cur, rfl, h1, h2, h3, h4, h5⟩
 · rw [h] at hn; exact absurd hn (by simp)
 · refine ⟨g, cap, rfl, fun i hi j hj => ?_⟩
   rw [cell_of_row _ _ _ _ _ _ h2, ← Array.getElem?_toList, h5, List.getElem?_append_left (by rw [kcs_length]; omega), kcs_get _ _ _ hi hj]
theorem OutK.slice (h : OutK w base v rs) : ∃ A c, v = .slice A rs.length c := by
 rcases h with ⟨rfl, rfl⟩ | ⟨g, cap, cur, rfl, _⟩
 · exact ⟨none, 0, rfl⟩
 · exact ⟨_, _, rfl⟩
end
theorem wpList_append_kid {P : Program} (w : World) {ops : Array Oper} {rest : List Oper} {o : Oper} {a : Act} {Q : Exit → Act → World → Prop} (hgd : o.guard = none) (s x : Operand) (t : TypeId)
    (ho : o.op = .call { callee := .builtin .append, args := #[s, x], argTypes := #[t, t] })
    (base : Nat) (i : TypeInfo) (ht : P.underlying t = some (.slice 28)) (hi : P.info? 28 = some i) (hz : i.zero = some (.agg #[.int .i64 0, .string ⟨#[]⟩, .slice none 0 0, .bool false, .slice none 0 0, .slice none 0 0])) (hsize : i.size = 6) (hby : i.bytes = 104)
    (v : Value) (rs : List Kc) (hs : a.eval s = v) (hown : OutK w base v rs)
    (g c : Nat) (r : Kc) (hx : a.eval x = .slice (some ⟨g, 0, none⟩) 1 c) (hc : ∀ j u, (kcl r)[j]? = some u → w.cell? ⟨g, j, none⟩ = some u) (hone : ∀ u ∈ kcl r, u.oneCell' = true)
    (hb : rs.length < 1048576) (hbase : base ≤ w.heap.size)
    (h : ∀ g' cap w', OutK w' base (.slice (some ⟨g', 0, none⟩) (rs.length + 1) cap) (rs ++ [r]) → w.grownBy w' v.ownBlock → (v.ownBlock = some g' ∨ w.heap.size ≤ g') → wpList P ops Q rest (a.put o.dst (.slice (some ⟨g', 0, none⟩) (rs.length + 1) cap)) w') : wpList P ops Q (o :: rest) a w := by
  refine wpList_plain hgd fun K hK => ?_
  have hnews : ∀ j u, (kcl r)[j]? = some u → w.cell? ((⟨g, 0, none⟩ : Addr).add j) = some u := fun j u hu => by rw [Addr.add_lit, Nat.zero_add]; exact hc j u hu
  have key : ∃ g' cap w', (Builtin.append_ #[t, t] o.type #[v, .slice (some ⟨g, 0, none⟩) 1 c]).run P w = .ok (.slice (some ⟨g', 0, none⟩) (rs.length + 1) cap) w' ∧ OutK w' base (.slice (some ⟨g', 0, none⟩) (rs.length + 1) cap) (rs ++ [r]) ∧ w.grownBy w' v.ownBlock ∧ (v.ownBlock = some g' ∨ w.heap.size ≤ g') := by
   have hzc : ∀ k, (Builtin.zeroCells (Value.cells (.agg #[.int .i64 0, .string ⟨#[]⟩, .slice none 0 0, .bool false, .slice none 0 0, .slice none 0 0])) k).toList = kzs k := fun k => rfl
   rcases hown with ⟨rfl, rfl⟩ | ⟨g0, cap, cur, rfl, a1, a2, a3, a4, a5⟩
   · have hrn := run_append_nil (P := P) (w := w) t o.type 28 i _ ht hi hz ⟨g, 0, none⟩ 1 c (kcl r) (by rw [hsize]; rfl) hnews (by omega) (by omega) (by rw [hby]; omega)
     refine ⟨_, _, _, hrn, .inr ⟨_, _, _, rfl, hbase, heap_alloc_new w.drew _, grownCap_ge w 1 0 _, grownCap_le_maxLen w 1 0 _ (by unfold maxLen; omega), ?_⟩, ⟨rfl, rfl, rfl, by simp, fun k hk _ => heap_alloc_old w.drew _ hk⟩, .inr (Nat.le_refl _)⟩
     rw [Array.toList_append, hzc]
     simp [kcs]
   ·
    by_cases hroom : rs.length + 1 ≤ cap
    · have hcs := OutK.size (w := w) a5 a3 a2
      have hrn := run_append_room (P := P) w t o.type 28 i ht hi g0 rs.length cap cur a2 ⟨g, 0, none⟩ 1 c (kcl r) (by rw [hsize]; rfl) hnews hone hroom (by rw [hsize, hcs, show (kcl r).length = 6 from rfl]; omega)
      refine ⟨_, _, _, hrn, .inr ⟨g0, cap, _, by rw [List.length_append]; rfl, a1, setRow_heap _ _ _ _ _ _ a2, by rw [List.length_append]; exact hroom, a4, ?_⟩, ⟨rfl, rfl, rfl, by simp, fun k _ hk => setRow_other w g0 k _ (fun e => hk (by simp [Value.ownBlock, e]))⟩, .inl rfl⟩
      rw [List.toList_toArray, a5, hsize, show (kcl r).length = 6 from rfl, List.take_append_of_le_length (by rw [kcs_length]; omega), List.take_of_length_le (by rw [kcs_length]; omega), List.drop_append, kcs_append]
      rw [List.drop_of_length_le (by rw [kcs_length]; omega), kcs_length, show rs.length * 6 + 6 - rs.length * 6 = 6 by omega, List.nil_append]
      obtain ⟨k, hk⟩ : ∃ k, cap - rs.length = k + 1 := ⟨cap - rs.length - 1, by omega⟩
      rw [hk, kzs_drop, List.length_append, show cap - (rs.length + [r].length) = k by simp; omega]
      simp [kcs]
    · have hcl : ∀ j u, (kcs rs)[j]? = some u → w.cell? ((⟨g0, 0, none⟩ : Addr).add j) = some u := fun j u hu => by
       have hj := (List.getElem?_eq_some_iff.1 hu).1
       rw [Addr.add_lit, Nat.zero_add, cell_of_row _ _ _ _ _ _ a2, ← Array.getElem?_toList, a5, List.getElem?_append_left hj, hu]
      have hrn := run_append_grow (P := P) (w := w) t o.type 28 i _ ht hi hz ⟨g0, 0, none⟩ rs.length cap (kcs rs) (by rw [hsize, kcs_length]) hcl ⟨g, 0, none⟩ 1 c (kcl r) (by rw [hsize]; rfl) hnews (by omega) (by omega) (by rw [hby]; exact growslice_fits (by omega) (by omega))
      refine ⟨_, _, _, hrn, .inr ⟨_, _, _, by rw [List.length_append]; rfl, hbase, heap_alloc_new w.drew _, by rw [List.length_append]; exact grownCap_ge w (rs.length + 1) cap _, grownCap_le_maxLen w (rs.length + 1) cap _ (by unfold maxLen; omega), ?_⟩, ⟨rfl, rfl, rfl, by simp, fun k hk _ => heap_alloc_old w.drew _ hk⟩, .inr (Nat.le_refl _)⟩
      rw [Array.toList_append, Array.toList_append, hzc, kcs_append, List.length_append]
      simp [kcs]
  obtain ⟨g', cap', w', hrun, k1, k2, k3⟩ := key
  unfold Oper.wp execOp
  simp only [ho, resolve, invoke, builtin, Sem.run_bind, Sem.run_pure, Result.andThen_ok, List.map_toArray, List.map_cons, List.map_nil, hs, hx, hrun]
  exact hK _ _ (h g' cap' w' k1 k2 k3)
end
section
open Go.RowKit
def Rw (w : World) (b : Nat) : Prop := ∃ cs t, w.heap[b]? = some (.cells cs t (0, 0))
def Nb (w : World) (lo m : Nat) (b : Nat) : Prop := lo ≤ b ∧ b < m ∧ Rw w b
theorem Rw.lt {w : World} {b : Nat} (h : Rw w b) : b < w.heap.size := by
 obtain ⟨cs, t, h⟩ := h
 exact (Array.getElem?_eq_some_iff.1 h).1
theorem Rw.same {w w' : World} {b : Nat} (h : Rw w b) (e : w'.heap[b]? = w.heap[b]?) : Rw w' b := by
 obtain ⟨cs, t, h⟩ := h
 exact ⟨cs, t, e.trans h⟩
abbrev kv (c : Kc) : Value := .agg #[c.1, c.2.1, c.2.2.1, c.2.2.2.1, c.2.2.2.2.1, c.2.2.2.2.2]
abbrev tc (k : Int) (nm : ByteArray) (A1 : Option Addr) (n1 c1 : Nat) (ng : Bool) (A2 : Option Addr) (n2 c2 : Nat) (A3 : Option Addr) (n3 c3 : Nat) : Kc :=
 (.int .i64 k, .string nm, .slice A1 n1 c1, .bool ng, .slice A2 n2 c2, .slice A3 n3 c3)
def KRow (w : World) (g n c : Nat) (rs : List Kc) : Prop := ∃ cur, w.heap[g]? = some (.cells cur 28 (0, 0)) ∧ n ≤ c ∧ c ≤ maxLen ∧ rs.length = n ∧ cur.toList = kcs rs ++ kzs (c - n)
theorem KRow.same {w w' : World} {g n c : Nat} {rs : List Kc} (h : KRow w g n c rs) (e : w'.heap[g]? = w.heap[g]?) : KRow w' g n c rs := by
 obtain ⟨cur, h1, h⟩ := h
 exact ⟨cur, e.trans h1, h⟩
theorem KRow.cells {w : World} {g n c : Nat} {rs : List Kc} (h : KRow w g n c rs) : ∀ i, i < n → ∀ j, j < 6 → w.cell? ⟨g, i * 6 + j, none⟩ = (kcl (rs.getD i kc0))[j]? := by
 obtain ⟨cur, h1, h2, h3, h4, h5⟩ := h
 intro i hi j hj
 rw [cell_of_row _ _ _ _ _ _ h1, ← Array.getElem?_toList, h5, List.getElem?_append_left (by rw [kcs_length]; omega), kcs_get _ _ _ (by omega) hj]
theorem OutK.row {w : World} {base : Nat} {v : Value} {rs : List Kc} (h : OutK w base v rs) : (v = .slice none 0 0 ∧ rs = []) ∨ ∃ g c, v = .slice (some ⟨g, 0, none⟩) rs.length c ∧ base ≤ g ∧ g < w.heap.size ∧ KRow w g rs.length c rs := by
 rcases h with h | ⟨g, cap, cur, rfl, h1, h2, h3, h4, h5⟩
 · exact .inl h
 · exact .inr ⟨g, cap, rfl, h1, (Array.getElem?_eq_some_iff.1 h2).1, cur, h2, h3, h4, rfl, h5⟩
mutual
def T.New (w : World) : T → Nat → Nat → Kc → Prop
 | .node k nm ns ng mg ks, lo, hi, v => ∃ A1 c1 A2 c2 A3 c3 m, v = tc k nm A1 ns.length c1 ng A2 mg.length c2 A3 ks.length c3 ∧ lo ≤ m ∧ m ≤ hi ∧ StrL w (Nb w lo m) A1 c1 ns ∧ SlR w (Nb w lo m) A2 c2 mg ∧
  ((A3 = Option.none ∧ c3 = 0 ∧ ks = []) ∨ ∃ g rs, A3 = some ⟨g, 0, Option.none⟩ ∧ m ≤ g ∧ g < hi ∧ KRow w g ks.length c3 rs ∧ T.News w ks g m hi rs)
def T.News (w : World) : List T → Nat → Nat → Nat → List Kc → Prop
 | [], _, lo, hi, rs => rs = [] ∧ lo ≤ hi
 | t :: r, g, lo, hi, rs => ∃ c q a mid, rs = c :: q ∧ lo ≤ a ∧ a ≤ mid ∧ (g < a ∨ mid ≤ g) ∧ T.New w t a mid c ∧ T.News w r g mid hi q
end
theorem T.New.le {w : World} {t : T} {lo hi : Nat} {v : Kc} (h : T.New w t lo hi v) : lo ≤ hi := by
 cases t
 simp only [T.New] at h
 obtain ⟨A1, c1, A2, c2, A3, c3, m, _, h1, h2, _⟩ := h
 omega
theorem T.News.le {w : World} : ∀ (ks : List T) (g lo hi : Nat) (rs : List Kc), T.News w ks g lo hi rs → lo ≤ hi
 | [], _, _, _, _, h => by simp only [T.News] at h; exact h.2
 | t :: r, g, lo, hi, rs, h => by
  simp only [T.News] at h
  obtain ⟨c, q, a, mid, _, h1, h2, _, _, h3⟩ := h
  have := T.News.le r g mid hi q h3
  omega
theorem T.News.len {w : World} : ∀ (ks : List T) (g lo hi : Nat) (rs : List Kc), T.News w ks g lo hi rs → rs.length = ks.length
 | [], _, _, _, _, h => by simp only [T.News] at h; rw [h.1]; rfl
 | t :: r, g, lo, hi, rs, h => by
  simp only [T.News] at h
  obtain ⟨c, q, a, mid, rfl, h1, h2, _, _, h3⟩ := h
  simp [T.News.len r g mid hi q h3]
mutual
theorem T.New.keep {w w' : World} : ∀ (t : T) (lo hi : Nat) (v : Kc), T.New w t lo hi v → (∀ b, lo ≤ b → b < hi → w'.heap[b]? = w.heap[b]?) → T.New w' t lo hi v
 | .node k nm ns ng mg ks, lo, hi, v, h, e => by
  simp only [T.New] at h ⊢
  obtain ⟨A1, c1, A2, c2, A3, c3, m, hv, h1, h2, hs, hm, hk⟩ := h
  have hkp : ∀ p v, Nb w lo m p.block → w.cell? p = some v → w'.cell? p = some v := fun p _ hp hc => (World.cell?_of_block (a := p) (e _ hp.1 (by have := hp.2.1; omega))).trans hc
  have hR : ∀ b, Nb w lo m b → Nb w' lo m b := fun b hb => ⟨hb.1, hb.2.1, hb.2.2.same (e b hb.1 (by have := hb.2.1; omega))⟩
  refine ⟨A1, c1, A2, c2, A3, c3, m, hv, h1, h2, hs.keep hkp hR, hm.keep hkp hR, ?_⟩
  rcases hk with hk | ⟨g, rs, hA, hg1, hg2, hrow, hn⟩
  · exact .inl hk
  · exact .inr ⟨g, rs, hA, hg1, hg2, hrow.same (e g (by omega) hg2), T.News.keep ks g m hi rs hn (fun b hb1 hb2 _ => e b (by omega) hb2)⟩
theorem T.News.keep {w w' : World} : ∀ (ks : List T) (g lo hi : Nat) (rs : List Kc), T.News w ks g lo hi rs → (∀ b, lo ≤ b → b < hi → b ≠ g → w'.heap[b]? = w.heap[b]?) → T.News w' ks g lo hi rs
 | [], _, _, _, _, h, _ => by simp only [T.News] at h ⊢; exact h
 | t :: r, g, lo, hi, rs, h, e => by
  simp only [T.News] at h ⊢
  obtain ⟨c, q, a, mid, hrs, h1, h2, hg, ht, hr⟩ := h
  have hle := T.News.le r g mid hi q hr
  exact ⟨c, q, a, mid, hrs, h1, h2, hg, T.New.keep t a mid c ht (fun b hb1 hb2 => e b (by omega) (by omega) (by omega)), T.News.keep r g mid hi q hr (fun b hb1 hb2 hb3 => e b (by omega) hb2 hb3)⟩
end
theorem T.News.hi {w : World} : ∀ (ks : List T) (g lo hi hi' : Nat) (rs : List Kc), T.News w ks g lo hi rs → hi ≤ hi' → T.News w ks g lo hi' rs
 | [], _, _, _, _, _, h, hh => by simp only [T.News] at h ⊢; exact ⟨h.1, by omega⟩
 | t :: r, g, lo, hi, hi', rs, h, hh => by
  simp only [T.News] at h ⊢
  obtain ⟨c, q, a, mid, hrs, h1, h2, hg, ht, hr⟩ := h
  exact ⟨c, q, a, mid, hrs, h1, h2, hg, ht, T.News.hi r g mid hi hi' q hr hh⟩
theorem T.News.apart {w : World} : ∀ (ks : List T) (g g' lo hi : Nat) (rs : List Kc), T.News w ks g lo hi rs → hi ≤ g' → T.News w ks g' lo hi rs
 | [], _, _, _, _, _, h, hh => by simp only [T.News] at h ⊢; exact h
 | t :: r, g, g', lo, hi, rs, h, hh => by
  simp only [T.News] at h ⊢
  obtain ⟨c, q, a, mid, hrs, h1, h2, hg, ht, hr⟩ := h
  have hle := T.News.le r g mid hi q hr
  exact ⟨c, q, a, mid, hrs, h1, h2, .inr (by omega), ht, T.News.apart r g g' mid hi q hr hh⟩
theorem T.News.snoc {w : World} : ∀ (ks : List T) (g lo mid hi : Nat) (rs : List Kc) (t : T) (c : Kc), T.News w ks g lo mid rs → T.New w t mid hi c → (g < mid ∨ hi ≤ g) → T.News w (ks ++ [t]) g lo hi (rs ++ [c])
 | [], g, lo, mid, hi, rs, t, c, h, ht, hg => by
  have := ht.le
  simp only [T.News] at h
  simp only [T.News, List.nil_append, h.1]
  exact ⟨c, [], mid, hi, rfl, h.2, this, hg, ht, rfl, Nat.le_refl _⟩
 | u :: r, g, lo, mid, hi, rs, t, c, h, ht, hg => by
  simp only [T.News, List.cons_append] at h ⊢
  obtain ⟨d, q, a, m2, hrs, h1, h2, hg2, hu, hr⟩ := h
  exact ⟨d, q ++ [c], a, m2, by rw [hrs]; rfl, h1, h2, hg2, hu, T.News.snoc r g m2 mid hi q t c hr ht hg⟩
theorem T.New.wide {w : World} {t : T} {lo hi lo' hi' : Nat} {v : Kc} (h : T.New w t lo hi v) (h1 : lo' ≤ lo) (h2 : hi ≤ hi') : T.New w t lo' hi' v := by
 cases t with
 | node k nm ns ng mg ks =>
  simp only [T.New] at h ⊢
  obtain ⟨A1, c1, A2, c2, A3, c3, m, hv, hm1, hm2, hs, hm, hk⟩ := h
  have hR : ∀ b, Nb w lo m b → Nb w lo' m b := fun b hb => ⟨by have := hb.1; omega, hb.2⟩
  refine ⟨A1, c1, A2, c2, A3, c3, m, hv, by omega, by omega, hs.keep (fun _ _ _ hc => hc) hR, hm.keep (fun _ _ _ hc => hc) hR, ?_⟩
  rcases hk with hk | ⟨g, rs, hA, hg1, hg2, hrow, hn⟩
  · exact .inl hk
  · exact .inr ⟨g, rs, hA, hg1, by omega, hrow, T.News.hi ks g m hi hi' rs hn h2⟩
theorem T.New.below {w w' : World} {t : T} {lo hi : Nat} {v : Kc} (h : T.New w t lo hi v) (hh : hi ≤ w.heap.size) (hb : Below w.heap.size w w') : T.New w' t lo hi v :=
 T.New.keep t lo hi v h (fun b _ hb2 => hb.block b (by omega))
mutual
theorem T.New.In {w : World} : ∀ (t : T) (lo hi : Nat) (v : Kc) (R : Nat → Prop), T.New w t lo hi v → (∀ b, lo ≤ b → b < hi → R b) → T.In w R t (kv v)
 | .node k nm ns ng mg ks, lo, hi, v, R, h, hR => by
  simp only [T.New] at h
  obtain ⟨A1, c1, A2, c2, A3, c3, m, rfl, h1, h2, hs, hm, hk⟩ := h
  have hN : ∀ b, Nb w lo m b → R b := fun b hb => hR b hb.1 (by have := hb.2.1; omega)
  simp only [T.In]
  refine ⟨A1, c1, A2, c2, A3, c3, rfl, hs.keep (fun _ _ _ hc => hc) hN, hm.keep (fun _ _ _ hc => hc) hN, ?_, fun hn => ?_⟩
  · rcases hk with ⟨_, _, rfl⟩ | ⟨g, rs, _, _, _, ⟨_, _, h3, _⟩, _⟩
    · exact Nat.zero_le _
    · exact h3
  · rcases hk with ⟨_, _, rfl⟩ | ⟨g, rs, hA, hg1, hg2, hrow, hn2⟩
    · exact absurd hn (by simp)
    · have hl := T.News.len ks g m hi rs hn2
      have hcs := hrow.cells
      exact ⟨g, 0, hA, hR g (by omega) hg2, T.News.In ks g m hi rs 0 R hn2 (fun b hb1 hb2 => hR b (by omega) hb2) (fun i hi' j hj => by rw [Nat.zero_add]; exact hcs i (by omega) j hj)⟩
theorem T.News.In {w : World} : ∀ (ks : List T) (g lo hi : Nat) (rs : List Kc) (o : Nat) (R : Nat → Prop), T.News w ks g lo hi rs → (∀ b, lo ≤ b → b < hi → R b) → (∀ i, i < rs.length → ∀ j, j < 6 → w.cell? ⟨g, o + (i * 6 + j), Option.none⟩ = (kcl (rs.getD i kc0))[j]?) → T.Ins w R g o ks
 | [], _, _, _, _, _, _, _, _, _ => by simp only [T.Ins]
 | t :: r, g, lo, hi, rs, o, R, h, hR, hc => by
  simp only [T.News] at h
  obtain ⟨c, q, a, mid, rfl, h1, h2, hg, ht, hr⟩ := h
  have hle := T.News.le r g mid hi q hr
  simp only [T.Ins]
  refine ⟨⟨c.1, c.2.1, c.2.2.1, c.2.2.2.1, c.2.2.2.2.1, c.2.2.2.2.2, ?_, T.New.In t a mid c R ht (fun b hb1 hb2 => hR b (by omega) (by omega))⟩, T.News.In r g mid hi q (o + 6) R hr (fun b hb1 hb2 => hR b (by omega) hb2) ?_⟩
  · have h0 := hc 0 (by simp)
    simp only [Nat.zero_mul, Nat.zero_add] at h0
    exact ⟨h0 0 (by omega), h0 1 (by omega), h0 2 (by omega), h0 3 (by omega), h0 4 (by omega), h0 5 (by omega)⟩
  · intro i hi' j hj
    have := hc (i + 1) (by simpa using hi') j hj
    rw [show o + 6 + (i * 6 + j) = o + ((i + 1) * 6 + j) by omega, this]
    simp [List.getD]
end
end
end Go.Proofs.YthiadenmljbdaaaGreatDoor

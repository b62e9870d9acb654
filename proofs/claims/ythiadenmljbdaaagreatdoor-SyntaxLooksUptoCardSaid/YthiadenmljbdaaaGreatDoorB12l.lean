/-
  l: the parts YCheck YNorm YRow2 YExact.
-/
import Derived.Test.YthiadenmljbdaaaGreatDoorB11l
import Derived.Deep.CutRange
import Derived.Test.YthiadenmljbdaaaGreatDoorB9l
import Derived.Deep.RegionLaw
import Derived.BigQuiet
import Derived.Deep.RegionHeld3
namespace Go.Proofs.YthiadenmljbdaaaGreatDoor
section
open Go.RowKit
def T.chk (t : T) : Int := if T.made true t = true then (if t.none = true then 11 else if 60 < t.depth then 43 else 0) else 1
set_option maxRecDepth 100000 in
set_option maxHeartbeats 1600000 in
theorem check_t (t : T) (w : World) (R : Nat → Prop) (v : Value) (hN : t.bulk ≤ 1048576) (h : T.In w R t v) :
    Calls Tryz.prog 19 #[v] w fun e w' => e = .returned (.int .i64 t.chk) ∧ Below w.heap.size w w' := by
  obtain ⟨A1, c1, A2, c2, A3, c3, rfl, _⟩ := h.open
  obtain ⟨n, hn⟩ : ∃ n, t.ks.length = n := ⟨_, rfl⟩
  rw [hn] at h ⊢
  have hal := below_alloc1 w (.cells #[.int .i64 t.k, .string t.nm, .slice A1 t.ns.length c1, .bool t.ng, .slice A2 t.mg.length c2, .slice A3 n c3] 28)
  have HI := Lib.hid (h.below hal)
  have pt := Blk.new w 28 #[.int .i64 t.k, .string t.nm, .slice A1 t.ns.length c1, .bool t.ng, .slice A2 t.mg.length c2, .slice A3 n c3]
  have HAL := Lib.hid hal
  have hd := t.depth_le
  clear hn h hal
  obtain ⟨m, hm⟩ : ∃ m, T.made true t = m := ⟨_, rfl⟩
  obtain ⟨z, hz⟩ : ∃ z, t.none = z := ⟨_, rfl⟩
  have HCK : Hid (t.chk = if m = true then (if z = true then 11 else if 60 < t.depth then 43 else 0) else 1) := Lib.hid (by unfold T.chk; rw [hm, hz])
  obtain ⟨d, hdd⟩ : ∃ d, t.depth = d := ⟨_, rfl⟩
  rw [hdd] at HCK hd
  have HM := Lib.hid hm
  have HZ := Lib.hid hz
  have HD := Lib.hid hdd
  clear hm hz hdd
  cases m
  · go_enter Tryz.func19, Tryz.ntmps19
    go_wp2_with (go_at_call 46; refine (made_t 1048576 t _ R _ true hN (by omega) HI.out).mono ?_; rw [HM.out]; rintro e w2 ⟨rfl, hb2⟩)
    go_ret
    exact ⟨by rw [HCK.out]; rfl, below_on HAL.out hb2⟩
  ·
   cases z
   case true =>
    go_enter Tryz.func19, Tryz.ntmps19
    go_wp2_with (first
     | (go_at_call 46; refine (made_t 1048576 t _ R _ true hN (by omega) HI.out).mono ?_; rw [HM.out]; rintro e w2 ⟨rfl, hb2⟩; obtain ⟨x0, x1, x2, x3, x4, x5⟩ := (pt.below hb2).six; have HI2 := Lib.hid (HI.out.below hb2))
     | (go_at_call 47; refine (none_t 1048576 t _ R _ hN (by omega) HI2.out).mono ?_; rw [HZ.out]; rintro e w3 ⟨rfl, hb3⟩))
    go_ret
    exact ⟨by rw [HCK.out]; rfl, below_on (below_on HAL.out hb2) hb3⟩
   case false =>
    by_cases h60 : 60 < d
    all_goals
     first
       | have d1 : decide (60 < d) = true := decide_eq_true (by omega)
       | have d1 : decide (60 < d) = false := decide_eq_false (by omega)
     have HC2 := Lib.hid HCK.out
     have d2 : decide ((d : Int) > 60) = decide (60 < d) := by rw [decide_eq_decide]; omega
     rw [d1] at d2
     have H6 := Lib.hid h60
     clear h60
     go_enter Tryz.func19, Tryz.ntmps19
     go_wp2_with (first
      | (go_at_call 46; refine (made_t 1048576 t _ R _ true hN (by omega) HI.out).mono ?_; rw [HM.out]; rintro e w2 ⟨rfl, hb2⟩; obtain ⟨x0, x1, x2, x3, x4, x5⟩ := (pt.below hb2).six; have HI2 := Lib.hid (HI.out.below hb2))
      | (go_at_call 47; refine (none_t 1048576 t _ R _ hN (by omega) HI2.out).mono ?_; rw [HZ.out]; rintro e w3 ⟨rfl, hb3⟩; obtain ⟨y0, y1, y2, y3, y4, y5⟩ := (pt.below (below_on hb2 hb3)).six; have HI3 := Lib.hid (HI2.out.below hb3))
      | (go_at_call 40; refine (depth_t 1048576 t _ R _ hN (by omega) HI3.out).mono ?_; rw [HD.out]; rintro e w4 ⟨rfl, hb4⟩))
     go_ret
     exact ⟨by rw [HCK.out]; have := H6.out; simp [this]; try rfl, below_on (below_on (below_on HAL.out hb2) hb3) hb4⟩
end
section
open Go.RowKit
theorem nrm_nil {mg : List Nat} (h : (nrm mg).length = 0) (ng : Bool) : nrm mg = [] ∧ nrmS ng mg = false := by
 have h1 : nrm mg = [] := List.eq_nil_of_length_eq_zero h
 refine ⟨h1, ?_⟩
 have : N.nv mg = 0 := by
  rcases Nat.eq_zero_or_pos (N.nv mg) with h0 | h0
  · exact h0
  · have := ofN_len_pos (k := (nrm mg).length) rfl h0
    omega
 unfold nrmS
 rw [this]
 simp
theorem nrm_pos {mg : List Nat} (h : (nrm mg).length ≠ 0) (ng : Bool) : nrmS ng mg = ng := by
 have : 0 < N.nv mg := by
  rcases Nat.eq_zero_or_pos (N.nv mg) with h0 | h0
  · exact absurd (ofN_len_zero (k := (nrm mg).length) rfl h0) h
  · exact h0
 unfold nrmS
 rw [decide_eq_true this, Bool.and_true]
set_option maxRecDepth 100000 in
set_option maxHeartbeats 800000 in
theorem norm_rl (w : World) (R : Nat → Prop) (ng : Bool) (A : Option Addr) (c : Nat) (mg : List Nat) (h : SlR w R A c mg) (hl : mg.length ≤ 1048576) :
    Calls Tryz.prog 56 #[.agg #[.bool ng, .slice A mg.length c]] w fun e w' => ∃ A' c', e = .returned (.agg #[.bool (nrmS ng mg), .slice A' (nrm mg).length c']) ∧ SlR w' (Nb w' w.heap.size w'.heap.size) A' c' (nrm mg) ∧ Below w.heap.size w w' := by
  have hs := h.1
  obtain ⟨m, hm⟩ : ∃ m, mg.length = m := ⟨_, rfl⟩
  rw [hm] at hs hl ⊢
  obtain ⟨W, hW, p0, p1, hsz, hb0⟩ := enter2r w 25 (.bool ng) (.slice A m c) (.bool false) (.slice none 0 0)
  have HS := Lib.hid (hs.below hb0)
  obtain ⟨_, _, c0, c1⟩ := p0.facts
  clear hm hs h
  go_enter Tryz.func56, Tryz.ntmps56
  go_upto_region 1 with (fail)
  rw [← hW]
  clear hW
  go_upto_region 2 with (go_at_call 96; refine (rtrim_any _ _ _ _ _ HS.out (by omega)).mono ?_; rintro e w2 ⟨g, n', c', rfl, hown, hb2⟩)
  have hbw := below_on hb0 hb2
  have p0 := p0.below hb2
  have p1 := p1.below hb2
  obtain ⟨_, _, c0, c1⟩ := p0.facts
  obtain ⟨f0, f1, d0, d1⟩ := p1.facts
  obtain hlen : (nrm mg).length = n' := hown.len
  have HO := Lib.hid hown
  have HL := Lib.hid hlen
  clear hown hlen hb2
  by_cases h0 : n' = 0
  ·
   subst h0
   obtain ⟨e1, e2⟩ := nrm_nil HL.out ng
   have HE := Lib.hid (And.intro e1 e2)
   clear e1 e2
   go_wp2_with fail
   refine bodyPost_ret (results_cell_row rfl _ _ _ _ _ _ _ rfl (p1.set _ _) Tryz.underlying25 rfl sizeInt) rfl ?_
   refine ⟨none, 0, by rw [HE.out.1, HE.out.2]; rfl, ?_, below_pair hbw (by omega) _ _⟩
   rw [HE.out.1]
   exact ⟨Sl.nil _ _ _, fun hn => absurd hn (by simp)⟩
  ·
   have h1 : ((n' : Int) == 0) = false := by simp; omega
   have HE := Lib.hid (nrm_pos (by rw [HL.out]; exact h0) ng)
   have hg := HO.out.base_le
   have hgW := hsz
   go_wp2_with fail
   refine bodyPost_ret (results_cell_row rfl _ _ _ _ _ _ _ rfl (p1.set _ _) Tryz.underlying25 rfl sizeInt) rfl ?_
   refine ⟨some ⟨g, 0, none⟩, c', by rw [HE.out, HL.out], ?_, below_pair hbw (by omega) _ _⟩
   have hoff : g ≠ w.heap.size + 1 := by omega
   have hO2 := (HO.out.far hoff 0 (.bool ng)).far hoff 1 (.slice (some ⟨g, 0, none⟩) n' c')
   obtain ⟨hnb, _⟩ := nb_row hO2.own
   refine ⟨by rw [HL.out]; exact hO2.sl, fun hn ad e => ?_⟩
   injection e with e
   subst e
   exact ⟨by show w.heap.size ≤ g; omega, hnb.2⟩
end
section
open Go.RowKit
theorem run_append_kid {P : Program} (w : World) (t u : TypeId)
    (base : Nat) (i : TypeInfo) (ht : P.underlying t = some (.slice 28)) (hi : P.info? 28 = some i) (hz : i.zero = some (.agg #[.int .i64 0, .string ⟨#[]⟩, .slice none 0 0, .bool false, .slice none 0 0, .slice none 0 0])) (hsize : i.size = 6) (hby : i.bytes = 104)
    (v : Value) (rs : List Kc) (hown : OutK w base v rs)
    (g c : Nat) (r : Kc) (hc : ∀ j u, (kcl r)[j]? = some u → w.cell? ⟨g, j, none⟩ = some u) (hone : ∀ u ∈ kcl r, u.oneCell' = true)
    (hb : rs.length < 1048576) (hbase : base ≤ w.heap.size) :
    ∃ g' cap w', (Builtin.append_ #[t, t] u #[v, .slice (some ⟨g, 0, none⟩) 1 c]).run P w = .ok (.slice (some ⟨g', 0, none⟩) (rs.length + 1) cap) w' ∧ OutK w' base (.slice (some ⟨g', 0, none⟩) (rs.length + 1) cap) (rs ++ [r]) ∧ w.grownBy w' v.ownBlock ∧ (v.ownBlock = some g' ∨ w.heap.size ≤ g') := by
  have hnews : ∀ j u, (kcl r)[j]? = some u → w.cell? ((⟨g, 0, none⟩ : Addr).add j) = some u := fun j u hu => by rw [Addr.add_lit, Nat.zero_add]; exact hc j u hu
  have hzc : ∀ k, (Builtin.zeroCells (Value.cells (.agg #[.int .i64 0, .string ⟨#[]⟩, .slice none 0 0, .bool false, .slice none 0 0, .slice none 0 0])) k).toList = kzs k := fun k => rfl
  rcases hown with ⟨rfl, rfl⟩ | ⟨g0, cap, cur, rfl, a1, a2, a3, a4, a5⟩
  · have hrn := run_append_nil (P := P) (w := w) t u 28 i _ ht hi hz ⟨g, 0, none⟩ 1 c (kcl r) (by rw [hsize]; rfl) hnews (by omega) (by omega) (by rw [hby]; omega)
    refine ⟨_, _, _, hrn, .inr ⟨_, _, _, rfl, hbase, heap_alloc_new w.drew _, grownCap_ge w 1 0 _, grownCap_le_maxLen w 1 0 _ (by unfold maxLen; omega), ?_⟩, ⟨rfl, rfl, rfl, by simp, fun k hk _ => heap_alloc_old w.drew _ hk⟩, .inr (Nat.le_refl _)⟩
    rw [Array.toList_append, hzc]
    simp [kcs]
  ·
   by_cases hroom : rs.length + 1 ≤ cap
   ·
    have hcs := OutK.size (w := w) a5 a3 a2
    have hrn := run_append_room (P := P) w t u 28 i ht hi g0 rs.length cap cur a2 ⟨g, 0, none⟩ 1 c (kcl r) (by rw [hsize]; rfl) hnews hone hroom (by rw [hsize, hcs, show (kcl r).length = 6 from rfl]; omega)
    refine ⟨g0, cap, _, hrn, .inr ⟨g0, cap, _, by rw [List.length_append]; rfl, a1, setRow_heap _ _ _ _ _ _ a2, by rw [List.length_append]; exact hroom, a4, ?_⟩, ⟨rfl, rfl, rfl, by simp, fun k hk hne => setRow_other w g0 k _ (fun e => hne (by simp [Value.ownBlock, e]))⟩, .inl rfl⟩
    rw [List.toList_toArray, a5, hsize, show (kcl r).length = 6 from rfl, List.take_append_of_le_length (by rw [kcs_length]; omega), List.take_of_length_le (by rw [kcs_length]; omega), List.drop_append, kcs_append]
    rw [List.drop_of_length_le (by rw [kcs_length]; omega), kcs_length, show rs.length * 6 + 6 - rs.length * 6 = 6 by omega, List.nil_append]
    obtain ⟨k, hk⟩ : ∃ k, cap - rs.length = k + 1 := ⟨cap - rs.length - 1, by omega⟩
    rw [hk, kzs_drop, List.length_append, show cap - (rs.length + [r].length) = k by simp; omega]
    simp [kcs]
   · have hcl : ∀ j u, (kcs rs)[j]? = some u → w.cell? ((⟨g0, 0, none⟩ : Addr).add j) = some u := fun j u hu => by
      have hj := (List.getElem?_eq_some_iff.1 hu).1
      rw [Addr.add_lit, Nat.zero_add, cell_of_row _ _ _ _ _ _ a2, ← Array.getElem?_toList, a5, List.getElem?_append_left hj, hu]
     have hrn := run_append_grow (P := P) (w := w) t u 28 i _ ht hi hz ⟨g0, 0, none⟩ rs.length cap (kcs rs) (by rw [hsize, kcs_length]) hcl ⟨g, 0, none⟩ 1 c (kcl r) (by rw [hsize]; rfl) hnews (by omega) (by omega) (by rw [hby]; exact growslice_fits (by omega) (by omega))
     refine ⟨_, _, _, hrn, .inr ⟨_, _, _, by rw [List.length_append]; rfl, hbase, heap_alloc_new w.drew _, by rw [List.length_append]; exact grownCap_ge w (rs.length + 1) cap _, grownCap_le_maxLen w (rs.length + 1) cap _ (by unfold maxLen; omega), ?_⟩, ⟨rfl, rfl, rfl, by simp, fun k hk _ => heap_alloc_old w.drew _ hk⟩, .inr (Nat.le_refl _)⟩
     rw [Array.toList_append, Array.toList_append, hzc, kcs_append, List.length_append]
     simp [kcs]
theorem step_append_kid {P : Program} {ops : Array Oper} {o : Oper} {a : Act} {w : World} {K : Act → World → Prop} {Q : Exit → Act → World → Prop} {E : Prop} (hgd : o.guard = none) (s x : Operand) (t : TypeId)
    (ho : o.op = .call { callee := .builtin .append, args := #[s, x], argTypes := #[t, t] })
    (base : Nat) (i : TypeInfo) (ht : P.underlying t = some (.slice 28)) (hi : P.info? 28 = some i) (hz : i.zero = some (.agg #[.int .i64 0, .string ⟨#[]⟩, .slice none 0 0, .bool false, .slice none 0 0, .slice none 0 0])) (hsize : i.size = 6) (hby : i.bytes = 104)
    (v : Value) (rs : List Kc) (hs : a.eval s = v) (hown : OutK w base v rs)
    (g c : Nat) (r : Kc) (hx : a.eval x = .slice (some ⟨g, 0, none⟩) 1 c) (hc : ∀ j u, (kcl r)[j]? = some u → w.cell? ⟨g, j, none⟩ = some u) (hone : ∀ u ∈ kcl r, u.oneCell' = true)
    (hb : rs.length < 1048576) (hbase : base ≤ w.heap.size)
    (h : ∀ g' cap w', OutK w' base (.slice (some ⟨g', 0, none⟩) (rs.length + 1) cap) (rs ++ [r]) → w.grownBy w' v.ownBlock → (v.ownBlock = some g' ∨ w.heap.size ≤ g') → K (a.put o.dst (.slice (some ⟨g', 0, none⟩) (rs.length + 1) cap)) w') :
    if Region.wanted o (yielded ops a.tmps) = true then Oper.wp P o a w K Q else E := by
  have hw : Region.wanted o (yielded ops a.tmps) = true := by simp [Region.wanted, hgd]
  rw [if_pos hw]
  obtain ⟨g', cap', w', hrun, k1, k2, k3⟩ := run_append_kid (P := P) w t o.type base i ht hi hz hsize hby v rs hown g c r hc hone hb hbase
  unfold Oper.wp execOp
  simp only [ho, resolve, invoke, builtin, Sem.run_bind, Sem.run_pure, Result.andThen_ok, List.map_toArray, List.map_cons, List.map_nil, hs, hx, hrun]
  exact h g' cap' w' k1 k2 k3
end
section
open Go.RowKit
set_option maxRecDepth 100000 in
set_option maxHeartbeats 1600000 in
theorem ints_eq (w : World) (R R' : Nat → Prop) (ng : Bool) (A A' : Option Addr) (c c' : Nat) (mg : List Nat) (h : SlR w R A c mg) (h' : SlR w R' A' c' mg) (hl : mg.length ≤ 1048576) :
    Calls Tryz.prog 41 #[.agg #[.bool ng, .slice A mg.length c], .agg #[.bool ng, .slice A' mg.length c']] w fun e w' => e = .returned (.bool true) ∧ Below w.heap.size w w' := by
  obtain ⟨W, hW, p0, p1, hsz, hb0⟩ := enter2r w 25 (.bool ng) (.slice A mg.length c) (.bool ng) (.slice A' mg.length c')
  have hs := (h.below hb0).1
  have hs' := (h'.below hb0).1
  have hcap := hs.cap
  have hcap' := hs'.cap
  obtain ⟨n, hn⟩ : ∃ n, mg.length = n := ⟨_, rfl⟩
  rw [hn] at p0 p1 hW hl hs hs' hcap hcap' ⊢
  have HS := Lib.hid hs
  have HS' := Lib.hid hs'
  obtain ⟨_, _, c0, c1⟩ := p0.facts
  obtain ⟨_, _, d0, d1⟩ := p1.facts
  clear h h' hn hs hs'
  go_enter Tryz.func41, Tryz.ntmps41
  go_upto_region 1 with (fail)
  rw [← hW]
  clear hW
  go_wp2_with fail
  go_loopg [5] (n + 1) (fun gk v5 wr => ∃ i : Nat, gk + i = n + 1 ∧ i ≤ n ∧ v5 = .int .i64 (i : Nat) ∧ Below W.heap.size W wr)
  case atStart => exact ⟨0, by omega, Nat.zero_le _, rfl, Below.refl _ _⟩
  case round =>
   clear c0 c1 d0 d1
   obtain ⟨i, hi, hin, rfl, hS⟩ := hrel
   obtain ⟨_, _, c0, c1⟩ := (p0.below hS).facts
   obtain ⟨_, _, d0, d1⟩ := (p1.below hS).facts
   by_cases hlt : i < n
   ·
    have hi3 : decide (i < n) = true := decide_eq_true hlt
    obtain ⟨b, o, rfl, hc⟩ := (HS.out.below hS).cells (by omega)
    obtain ⟨b', o', rfl, hc'⟩ := (HS'.out.below hS).cells (by omega)
    have e0 := hc i hlt
    have e1 := hc' i hlt
    obtain ⟨z, hz⟩ : ∃ z, N.dg mg i = z := ⟨_, rfl⟩
    rw [hz] at e0 e1
    have hi0 : (0 : Int) ≤ i := by omega
    have hi1 : (i : Int) < n := by omega
    clear hc hc' hz
    go_wp2_with fail
    go_quiet (fail)
    go_wp2_with fail
    go_roundg (n - i)
    case measure => omega
    case rel => exact ⟨i + 1, by omega, by omega, by go_num, below_drewN hS _⟩
   · have hi3 : decide (i < n) = false := decide_eq_false hlt
     obtain rfl : i = n := by omega
     go_wp2_with fail
     go_ret
     exact ⟨rfl, below_on hb0 hS⟩
theorem eq_open {t u : T} (h : t = u) : t.k = u.k ∧ t.nm = u.nm ∧ t.ns = u.ns ∧ t.ng = u.ng ∧ t.mg = u.mg ∧ t.ks.length = u.ks.length ∧ ∀ i, t.ks.getD i t0 = u.ks.getD i t0 := by subst h; exact ⟨rfl, rfl, rfl, rfl, rfl, rfl, fun _ => rfl⟩
set_option maxRecDepth 100000 in
set_option maxHeartbeats 6400000 in
theorem exact_t : ∀ (N : Nat) (t u : T) (w : World) (R R' : Nat → Prop) (v v' : Value), t.bulk ≤ N → u.bulk ≤ N → N ≤ 1048576 → t = u → T.In w R t v → T.In w R' u v' →
    Calls Tryz.prog 13 #[v, v'] w fun e w' => e = .returned (.bool true) ∧ Below w.heap.size w w'
  | 0, t, _, _, _, _, _, _, hN, _, _, _, _, _ => by have := T.bulk_pos t; omega
  | N + 1, t, u, w, R, R', v, v', hN, hN', hN2, hrel, h, h' => by
   have ih := exact_t N
   obtain ⟨A1, c1, A2, c2, A3, c3, rfl, hnames, hmag, hc3, hkids⟩ := h.open
   obtain ⟨D1, d1, D2, d2, D3, d3, rfl, gnames, gmag, gc3, gkids⟩ := h'.open
   obtain ⟨hl1, hl2, hl3, hl4, hlen⟩ := T.len_le hN
   obtain ⟨gl1, gl2, gl3, gl4, glen⟩ := T.len_le hN'
   obtain ⟨q1, q2, q3, q4, q5, q6, qk⟩ := eq_open hrel
   have HNUM := Lib.hid (fun (w2 : World) (hb : Below w.heap.size w w2) => show Calls Tryz.prog 41 #[.agg #[.bool t.ng, .slice A2 t.mg.length c2], .agg #[.bool u.ng, .slice D2 u.mg.length d2]] w2 fun e w' => e = .returned (.bool true) ∧ Below w2.heap.size w2 w' from by rw [← q4, ← q5]; rw [← q5] at gmag; exact ints_eq w2 R R' t.ng A2 D2 c2 d2 t.mg (hmag.below hb) (gmag.below hb) (by omega))
   obtain ⟨n, hn⟩ : ∃ n, t.ks.length = n := ⟨_, rfl⟩
   obtain ⟨m, hm⟩ : ∃ m, t.ns.length = m := ⟨_, rfl⟩
   have hn' : u.ks.length = n := by rw [← q6, hn]
   have hm' : u.ns.length = m := by rw [← q3, hm]
   rw [← q3] at gnames
   obtain ⟨hcp1, hns⟩ := hnames
   obtain ⟨gcp1, gns⟩ := gnames
   rw [hn] at hkids hc3 hlen ⊢
   rw [hn'] at gkids gc3 glen ⊢
   rw [hm] at hl2 hns hcp1 ⊢
   rw [hm'] at gl2 ⊢
   rw [hm] at gns gcp1
   rw [← q1, ← q2]
   obtain ⟨k, hk0⟩ : ∃ k, t.k = k := ⟨_, rfl⟩
   obtain ⟨nm, hnm0⟩ : ∃ k, t.nm = k := ⟨_, rfl⟩
   rw [hk0, hnm0]
   obtain ⟨ml, hml⟩ : ∃ k, t.mg.length = k := ⟨_, rfl⟩
   obtain ⟨ml', hml'⟩ : ∃ k, u.mg.length = k := ⟨_, rfl⟩
   obtain ⟨ng, hng⟩ : ∃ k, t.ng = k := ⟨_, rfl⟩
   obtain ⟨ng', hng'⟩ : ∃ k, u.ng = k := ⟨_, rfl⟩
   rw [hml, hng] at HNUM ⊢
   rw [hml', hng'] at HNUM ⊢
   have HN := Lib.hid hn
   have HN' := Lib.hid hn'
   have HK := Lib.hid hkids
   have HK' := Lib.hid gkids
   have HB := Lib.hid hN
   have HB' := Lib.hid hN'
   have HNS := Lib.hid hns
   have HNS' := Lib.hid gns
   have HQK := Lib.hid qk
   clear hn hn' hm hm' hkids gkids hN hN' hns gns qk q1 q2 q3 q4 q5 q6 hrel h h' hmag gmag hk0 hnm0 hml hml' hng hng'
   go_enter Tryz.func13, Tryz.ntmps13
   go_upto_region 1 with (fail)
   obtain ⟨W0, hW0, pt0, hb0⟩ := made_blk w #[.int .i64 k, .string nm, .slice A1 m c1, .bool ng, .slice A2 ml c2, .slice A3 n c3] 28
   have hsz0 : W0.heap.size = w.heap.size + 1 := by rw [hW0]; simp
   obtain ⟨Bt, hBt⟩ : ∃ b, b = w.heap.size := ⟨_, rfl⟩
   rw [← hW0, ← hBt]
   rw [← hBt] at pt0 hsz0
   obtain ⟨W1, hW1, pu, hb1⟩ := made_blk W0 #[.int .i64 k, .string nm, .slice D1 m d1, .bool ng', .slice D2 ml' d2, .slice D3 n d3] 28
   rw [← hW1]
   rw [hsz0] at pu
   have pt := pt0.below hb1
   have hb1 := below_on hb0 hb1
   clear hW0 hW1 hb0 hBt hsz0 pt0
   obtain ⟨x0, x1, x2, x3, x4, x5⟩ := pt.six
   obtain ⟨y0, y1, y2, y3, y4, y5⟩ := pu.six
   go_upto_region 3 with (go_at_call 41; refine (HNUM.out _ hb1).mono ?_; rintro e w2 ⟨rfl, hb2⟩)
   clear x0 x1 x2 x3 x4 x5 y0 y1 y2 y3 y4 y5
   have pt := pt.below hb2
   have pu := pu.below hb2
   have hb3 := below_on hb1 hb2
   clear hb1 hb2
   obtain ⟨x0, x1, x2, x3, x4, x5⟩ := pt.six
   obtain ⟨y0, y1, y2, y3, y4, y5⟩ := pu.six
   go_wp2_with fail
   go_loopg [5] (m + 1) (fun gk v5 wr => ∃ i : Nat, gk + i = m + 1 ∧ i ≤ m ∧ v5 = .int .i64 (i : Nat) ∧ Below w2.heap.size w2 wr)
   case atStart => exact ⟨0, by omega, Nat.zero_le _, rfl, Below.refl _ _⟩
   case round =>
    clear x0 x1 x2 x3 x4 x5 y0 y1 y2 y3 y4 y5
    obtain ⟨i, hi, hin, rfl, hS⟩ := hrel
    obtain ⟨x0, x1, x2, x3, x4, x5⟩ := (pt.below hS).six
    obtain ⟨y0, y1, y2, y3, y4, y5⟩ := (pu.below hS).six
    by_cases hlt : i < m
    ·
     have hi3 : decide (i < m) = true := decide_eq_true hlt
     obtain ⟨b, o, rfl, _, hc⟩ := HNS.out (by omega)
     obtain ⟨b', o', rfl, _, hc'⟩ := HNS'.out (by omega)
     have e0 := keep_cell (hc i hlt) (below_on hb3 hS)
     have e1 := keep_cell (hc' i hlt) (below_on hb3 hS)
     obtain ⟨z, hz⟩ : ∃ z, t.ns.getD i ⟨#[]⟩ = z := ⟨_, rfl⟩
     rw [hz] at e0 e1
     have hi0 : (0 : Int) ≤ i := by omega
     have hi1 : (i : Int) < m := by omega
     clear hc hc' hz
     go_wp2_with fail
     go_quiet (fail)
     go_wp2_with fail
     go_roundg (m - i)
     case measure => omega
     case rel => exact ⟨i + 1, by omega, by omega, by go_num, below_drewN hS _⟩
    ·
     have hi3 : decide (i < m) = false := decide_eq_false hlt
     obtain rfl : i = m := by omega
     have pt := pt.below hS
     have pu := pu.below hS
     have hb4 := below_on hb3 hS
     obtain ⟨wq, hwq⟩ : ∃ w', w' = wr := ⟨_, rfl⟩
     rw [← hwq] at pt pu hb4 x0 x1 x2 x3 x4 x5 y0 y1 y2 y3 y4 y5 ⊢
     clear hS hwq hb3
     go_wp2_with fail
     go_loopg [6] (n + 1) (fun gk v6 wr => ∃ j : Nat, gk + j = n + 1 ∧ j ≤ n ∧ v6 = .int .i64 (j : Nat) ∧ Below wq.heap.size wq wr)
     case atStart => exact ⟨0, by omega, Nat.zero_le _, rfl, Below.refl _ _⟩
     case round =>
      clear x0 x1 x2 x3 x4 x5 y0 y1 y2 y3 y4 y5
      obtain ⟨j, hj, hjn, rfl, hS⟩ := hrel
      have x5 := (pt.below hS).six.2.2.2.2.2
      have y5 := (pu.below hS).six.2.2.2.2.2
      by_cases hlt : j < n
      ·
       have hi3 : decide (j < n) = true := decide_eq_true hlt
       obtain ⟨b, o, rfl, hk⟩ := HK.out (by omega)
       obtain ⟨b', o', rfl, hk'⟩ := HK'.out (by omega)
       have hkd := (hk j hlt).below (below_on hb4 hS)
       have hkd' := (hk' j hlt).below (below_on hb4 hS)
       have hqk := HQK.out j
       have hub := T.kid_bulk HB.out (show j < t.ks.length by rw [HN.out]; exact hlt)
       have hub' := T.kid_bulk HB'.out (show j < u.ks.length by rw [HN'.out]; exact hlt)
       obtain ⟨a, ha⟩ : ∃ a, t.ks.getD j t0 = a := ⟨_, rfl⟩
       obtain ⟨a', ha'⟩ : ∃ a, u.ks.getD j t0 = a := ⟨_, rfl⟩
       rw [ha] at hkd hqk hub
       rw [ha'] at hkd' hqk hub'
       have HQ := Lib.hid hqk
       clear hk hk' ha ha' hqk
       obtain ⟨B1, b1, B2, b2, B3, b3, h6, hkin⟩ := hkd
       obtain ⟨G1, g1, G2, g2, G3, g3, h6', hkin'⟩ := hkd'
       obtain ⟨e0, e1, e2, e3, e4, e5⟩ := h6
       obtain ⟨f0, f1, f2, f3, f4, f5⟩ := h6'
       have HI := Lib.hid (fun (w' : World) (hb : Below wr.heap.size wr w') => hkin.below hb)
       have HI' := Lib.hid (fun (w' : World) (hb : Below wr.heap.size wr w') => hkin'.below hb)
       have hi0 : (0 : Int) ≤ j := by omega
       have hi1 : (j : Int) < n := by omega
       have hS0 : ∀ w', Below wr.heap.size wr w' → (fun w' => (w'.cell? ⟨Bt, 5, none⟩ = some (.slice (some ⟨b, o, none⟩) n c3) ∧ w'.cell? ⟨Bt + 1, 5, none⟩ = some (.slice (some ⟨b', o', none⟩) n d3) ∧ w'.cell? ⟨b, o + j * 6, none⟩ = some (.int .i64 a.k) ∧ w'.cell? ⟨b, o + j * 6 + 1, none⟩ = some (.string a.nm) ∧ w'.cell? ⟨b, o + j * 6 + 2, none⟩ = some (.slice B1 a.ns.length b1) ∧ w'.cell? ⟨b, o + j * 6 + 3, none⟩ = some (.bool a.ng) ∧ w'.cell? ⟨b, o + j * 6 + 4, none⟩ = some (.slice B2 a.mg.length b2) ∧ w'.cell? ⟨b, o + j * 6 + 5, none⟩ = some (.slice B3 a.ks.length b3) ∧ w'.cell? ⟨b', o' + j * 6, none⟩ = some (.int .i64 a'.k) ∧ w'.cell? ⟨b', o' + j * 6 + 1, none⟩ = some (.string a'.nm) ∧ w'.cell? ⟨b', o' + j * 6 + 2, none⟩ = some (.slice G1 a'.ns.length g1) ∧ w'.cell? ⟨b', o' + j * 6 + 3, none⟩ = some (.bool a'.ng) ∧ w'.cell? ⟨b', o' + j * 6 + 4, none⟩ = some (.slice G2 a'.mg.length g2) ∧ w'.cell? ⟨b', o' + j * 6 + 5, none⟩ = some (.slice G3 a'.ks.length g3)) ∧ Below wr.heap.size wr w') w' := fun w' h =>
        ⟨⟨keep_cell x5 h, keep_cell y5 h, keep_cell e0 h, keep_cell e1 h, keep_cell e2 h, keep_cell e3 h, keep_cell e4 h, keep_cell e5 h, keep_cell f0 h, keep_cell f1 h, keep_cell f2 h, keep_cell f3 h, keep_cell f4 h, keep_cell f5 h⟩, h⟩
       have HS0 := Lib.hid hS0
       have HSW := Lib.hid hS
       clear hkin hkin' hS0 hS
       go_upto_region 11 with (fail)
       have hS : Below wr.heap.size wr wr := Below.refl _ _
       clear x5 y5 e0 e1 e2 e3 e4 e5 f0 f1 f2 f3 f4 f5
       go_region_held3 (fun w' => (w'.cell? ⟨Bt, 5, none⟩ = some (.slice (some ⟨b, o, none⟩) n c3) ∧ w'.cell? ⟨Bt + 1, 5, none⟩ = some (.slice (some ⟨b', o', none⟩) n d3) ∧ w'.cell? ⟨b, o + j * 6, none⟩ = some (.int .i64 a.k) ∧ w'.cell? ⟨b, o + j * 6 + 1, none⟩ = some (.string a.nm) ∧ w'.cell? ⟨b, o + j * 6 + 2, none⟩ = some (.slice B1 a.ns.length b1) ∧ w'.cell? ⟨b, o + j * 6 + 3, none⟩ = some (.bool a.ng) ∧ w'.cell? ⟨b, o + j * 6 + 4, none⟩ = some (.slice B2 a.mg.length b2) ∧ w'.cell? ⟨b, o + j * 6 + 5, none⟩ = some (.slice B3 a.ks.length b3) ∧ w'.cell? ⟨b', o' + j * 6, none⟩ = some (.int .i64 a'.k) ∧ w'.cell? ⟨b', o' + j * 6 + 1, none⟩ = some (.string a'.nm) ∧ w'.cell? ⟨b', o' + j * 6 + 2, none⟩ = some (.slice G1 a'.ns.length g1) ∧ w'.cell? ⟨b', o' + j * 6 + 3, none⟩ = some (.bool a'.ng) ∧ w'.cell? ⟨b', o' + j * 6 + 4, none⟩ = some (.slice G2 a'.mg.length g2) ∧ w'.cell? ⟨b', o' + j * 6 + 5, none⟩ = some (.slice G3 a'.ks.length g3)) ∧ Below wr.heap.size wr w')
        (first | exact HS0.out _ (by with_reducible assumption) | exact HS0.out _ (Below.drew (by with_reducible assumption)))
        (first
          | (go_at_call 13; refine (ih a a' _ R R' _ _ hub hub' (by omega) HQ.out (HI.out _ (s_below (by with_reducible assumption))) (HI'.out _ (s_below (by with_reducible assumption)))).mono ?_; rintro e wn ⟨rfl, hb⟩; have hS2 := below_on (s_below (by with_reducible assumption)) hb; clear hS; have hS := hS2; clear hS2 hb))
       replace hS := below_on HSW.out hS
       go_wp2_with fail
       go_roundg (n - j)
       case measure => omega
       case rel => exact ⟨j + 1, by omega, by omega, by go_num, hS⟩
      · have hi3 : decide (j < n) = false := decide_eq_false hlt
        obtain rfl : j = n := by omega
        go_wp2_with fail
        go_ret
        exact ⟨rfl, below_on hb4 hS⟩
end
end Go.Proofs.YthiadenmljbdaaaGreatDoor

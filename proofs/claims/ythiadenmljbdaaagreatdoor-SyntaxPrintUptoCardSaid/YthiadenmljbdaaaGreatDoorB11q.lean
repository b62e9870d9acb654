/-
  q: the parts YCheck YMay2 YExact.
-/
import Derived.Test.YthiadenmljbdaaaGreatDoorB10q
import Derived.Deep.CutRange
import Derived.Test.YthiadenmljbdaaaGreatDoorB8q
import Derived.BigQuiet
import Derived.Deep.RegionHeld3
namespace Go.Proofs.YthiadenmljbdaaaGreatDoor
section
open Go.RowKit
def T.chk (t : T) : Int := if T.made true t = true then (if t.none = true then 11 else if 60 < t.depth then 43 else 0) else 1
set_option maxRecDepth 100000 in
set_option maxHeartbeats 1600000 in
theorem check_t (t : T) (w : World) (R : Nat → Prop) (v : Value) (hN : t.bulk ≤ 1048576) (h : T.In w R t v) :
    Calls Tryz.prog 19 #[v] w fun e w' => e = .returned (.int .i64 t.chk) ∧ Below w.heap.size w w' := by
  obtain ⟨A1, c1, A2, c2, A3, c3, rfl, _⟩ := h.open
  obtain ⟨n, hn⟩ : ∃ n, t.ks.length = n := ⟨_, rfl⟩
  rw [hn] at h ⊢
  have hal := below_alloc1 w (.cells #[.int .i64 t.k, .string t.nm, .slice A1 t.ns.length c1, .bool t.ng, .slice A2 t.mg.length c2, .slice A3 n c3] 28)
  have HI := Lib.hid (h.below hal)
  have pt := Blk.new w 28 #[.int .i64 t.k, .string t.nm, .slice A1 t.ns.length c1, .bool t.ng, .slice A2 t.mg.length c2, .slice A3 n c3]
  have HAL := Lib.hid hal
  have hd := t.depth_le
  clear hn h hal
  obtain ⟨m, hm⟩ : ∃ m, T.made true t = m := ⟨_, rfl⟩
  obtain ⟨z, hz⟩ : ∃ z, t.none = z := ⟨_, rfl⟩
  have HCK : Hid (t.chk = if m = true then (if z = true then 11 else if 60 < t.depth then 43 else 0) else 1) := Lib.hid (by unfold T.chk; rw [hm, hz])
  obtain ⟨d, hdd⟩ : ∃ d, t.depth = d := ⟨_, rfl⟩
  rw [hdd] at HCK hd
  have HM := Lib.hid hm
  have HZ := Lib.hid hz
  have HD := Lib.hid hdd
  clear hm hz hdd
  cases m
  · go_enter Tryz.func19, Tryz.ntmps19
    go_wp2_with (go_at_call 46; refine (made_t 1048576 t _ R _ true hN (by omega) HI.out).mono ?_; rw [HM.out]; rintro e w2 ⟨rfl, hb2⟩)
    go_ret
    exact ⟨by rw [HCK.out]; rfl, below_on HAL.out hb2⟩
  ·
   cases z
   case true =>
    go_enter Tryz.func19, Tryz.ntmps19
    go_wp2_with (first
     | (go_at_call 46; refine (made_t 1048576 t _ R _ true hN (by omega) HI.out).mono ?_; rw [HM.out]; rintro e w2 ⟨rfl, hb2⟩; obtain ⟨x0, x1, x2, x3, x4, x5⟩ := (pt.below hb2).six; have HI2 := Lib.hid (HI.out.below hb2))
     | (go_at_call 47; refine (none_t 1048576 t _ R _ hN (by omega) HI2.out).mono ?_; rw [HZ.out]; rintro e w3 ⟨rfl, hb3⟩))
    go_ret
    exact ⟨by rw [HCK.out]; rfl, below_on (below_on HAL.out hb2) hb3⟩
   case false =>
    by_cases h60 : 60 < d
    all_goals
     first
       | have d1 : decide (60 < d) = true := decide_eq_true (by omega)
       | have d1 : decide (60 < d) = false := decide_eq_false (by omega)
     have HC2 := Lib.hid HCK.out
     have d2 : decide ((d : Int) > 60) = decide (60 < d) := by rw [decide_eq_decide]; omega
     rw [d1] at d2
     have H6 := Lib.hid h60
     clear h60
     go_enter Tryz.func19, Tryz.ntmps19
     go_wp2_with (first
      | (go_at_call 46; refine (made_t 1048576 t _ R _ true hN (by omega) HI.out).mono ?_; rw [HM.out]; rintro e w2 ⟨rfl, hb2⟩; obtain ⟨x0, x1, x2, x3, x4, x5⟩ := (pt.below hb2).six; have HI2 := Lib.hid (HI.out.below hb2))
      | (go_at_call 47; refine (none_t 1048576 t _ R _ hN (by omega) HI2.out).mono ?_; rw [HZ.out]; rintro e w3 ⟨rfl, hb3⟩; obtain ⟨y0, y1, y2, y3, y4, y5⟩ := (pt.below (below_on hb2 hb3)).six; have HI3 := Lib.hid (HI2.out.below hb3))
      | (go_at_call 40; refine (depth_t 1048576 t _ R _ hN (by omega) HI3.out).mono ?_; rw [HD.out]; rintro e w4 ⟨rfl, hb4⟩))
     go_ret
     exact ⟨by rw [HCK.out]; have := H6.out; simp [this]; try rfl, below_on (below_on (below_on HAL.out hb2) hb3) hb4⟩
end
section
open Go.RowKit
theorem name_empty {s : ByteArray} (h : s.size = 0) : nameB s = false := by
 have e : s.data.toList = [] := List.eq_nil_of_length_eq_zero (by rw [size_list]; exact h)
 unfold nameB
 rw [e]
 rfl
theorem kinds_fm {k : Int} (h : okK k = true) (f : Bool) : (fmK k == f) = (termK k == !f) := by
 unfold okK at h
 simp only [Bool.and_eq_true, decide_eq_true_eq] at h
 unfold fmK termK
 by_cases h6 : k ≤ 6
 · rw [decide_eq_false (show ¬ 7 ≤ k by omega), decide_eq_true h.1, decide_eq_true h6]
   cases f <;> rfl
 · rw [decide_eq_true (show 7 ≤ k by omega), decide_eq_true h.1, decide_eq_true h.2, decide_eq_false h6]
   cases f <;> rfl
theorem kinds_in {k : Int} (h : okK k = true) {n : Nat} (hn : 0 < n) (hc : (decide (mostK k < 0) || decide ((n : Int) ≤ mostK k)) = true) : termsK k = !innerK k := by
 unfold okK at h
 simp only [Bool.and_eq_true, decide_eq_true_eq] at h
 rcases kinds h.1 h.2 with rfl | rfl | rfl | rfl | rfl | rfl | rfl | rfl | rfl | rfl | rfl | rfl | rfl | rfl | rfl | rfl | rfl | rfl | rfl | rfl | rfl | rfl
 all_goals first
  | rfl
  | (exfalso
     simp [mostK] at hc
     omega)
theorem num_law {ng : Bool} {mg : List Nat} (hl : N.Lim mg) (nk : Bool) : (!ng && ((nk || bareB ng mg) && vld ng mg)) = (if nk = true then standsB ng mg else bareB ng mg) := by
 cases ng with
 | true => cases nk <;> simp [bareB, standsB]
 | false =>
  by_cases h0 : mg = []
  · subst h0
    have : vld false [] = true := by decide
    cases nk <;> simp [bareB, standsB, this]
  ·
   have hv := vld_last (s := false) hl h0
   have hlen : mg.length ≠ 0 := fun e => h0 (List.eq_nil_of_length_eq_zero e)
   cases nk
   · simp [bareB, hlen]
   · rw [hv]
     by_cases hd : N.dg mg (mg.length - 1) = 0
     · simp [standsB, hlen, hd]
     · simp [standsB, hd]
mutual
theorem T.In.made_may {w : World} {R : Nat → Prop} : ∀ {t : T} {v : Value}, T.In w R t v → ∀ f : Bool, T.made f t = ((termK t.k == !f) && t.may)
 | .node k nm ns ng mg ks, v, h, f => by
  simp only [T.In] at h
  obtain ⟨A1, c1, A2, c2, A3, c3, _, _, h2, _, h4⟩ := h
  simp only [T.made, T.may, T.k]
  cases hok : okK k with
  | false => simp
  | true =>
   rw [kinds_fm hok f]
   have e1 : ((nameK k == nameB nm) && (nameK k || nm.size == 0)) = (if k == 2 then nameB nm else nm.size == 0) := by
    unfold nameK
    cases hk : (k == 2) with
    | true => cases nameB nm <;> simp
    | false =>
     by_cases hz : nm.size = 0
     · rw [name_empty hz, hz]; rfl
     · simp [hz]
   have e2 : ((namesK k == decide (0 < ns.length)) && namesB ns) = (if namesK k then namesB ns && decide (0 < ns.length) else ns.length == 0) := by
    cases namesK k with
    | true => cases ns <;> cases namesB _ <;> simp
    | false => cases ns <;> simp [namesB]
   have e3 := num_law (ng := ng) h2.1.lim (numK k)
   rw [e1, e2, e3]
   cases hc : (decide (leastK k ≤ (ks.length : Int)) && (decide (mostK k < 0) || decide ((ks.length : Int) ≤ mostK k))) with
   | false => simp
   | true =>
    have e4 : T.mades (innerK k) ks = T.mays (termsK k) ks := by
     by_cases h0 : 0 < ks.length
     · obtain ⟨b, o, _, _, hi⟩ := h4 h0
       rw [T.Ins.made_may hi, kinds_in hok h0 (by simp only [Bool.and_eq_true] at hc; exact hc.2)]
     · have : ks = [] := List.eq_nil_of_length_eq_zero (by omega)
       subst this
       rfl
    rw [e4]
    simp
theorem T.Ins.made_may {w : World} {R : Nat → Prop} {b : Nat} : ∀ {o : Nat} {l : List T}, T.Ins w R b o l → ∀ {f : Bool}, T.mades f l = T.mays (!f) l
 | _, [], _, _ => rfl
 | o, t :: r, h, f => by
  simp only [T.Ins] at h
  obtain ⟨⟨v0, v1, v2, v3, v4, v5, _, ht⟩, hr⟩ := h
  simp only [T.mades, T.mays]
  rw [T.In.made_may ht f, T.Ins.made_may hr]
end
set_option maxRecDepth 100000 in
set_option maxHeartbeats 1600000 in
theorem rcheck_t (t : T) (w : World) (R : Nat → Prop) (v : Value) (hN : t.bulk ≤ 1048576) (h : T.In w R t v) :
    Calls Tryz.prog 20 #[v] w fun e w' => e = .returned (.int .i64 t.chk) ∧ Below w.heap.size w w' := by
  have hmade := h.made_may true
  obtain ⟨A1, c1, A2, c2, A3, c3, rfl, _⟩ := h.open
  obtain ⟨n, hn⟩ : ∃ n, t.ks.length = n := ⟨_, rfl⟩
  rw [hn] at h ⊢
  have hal := below_alloc1 w (.cells #[.int .i64 t.k, .string t.nm, .slice A1 t.ns.length c1, .bool t.ng, .slice A2 t.mg.length c2, .slice A3 n c3] 28)
  have HI := Lib.hid (h.below hal)
  have pt := Blk.new w 28 #[.int .i64 t.k, .string t.nm, .slice A1 t.ns.length c1, .bool t.ng, .slice A2 t.mg.length c2, .slice A3 n c3]
  have HAL := Lib.hid hal
  have hd := t.depth_le
  obtain ⟨x0, x1, x2, x3, x4, x5⟩ := pt.six
  clear hn h hal
  obtain ⟨m, hm⟩ : ∃ m, t.may = m := ⟨_, rfl⟩
  obtain ⟨q, hq⟩ : ∃ q, termK t.k = q := ⟨_, rfl⟩
  obtain ⟨z, hz⟩ : ∃ z, t.none = z := ⟨_, rfl⟩
  rw [hm, hq] at hmade
  have HCK : Hid (t.chk = if T.made true t = true then (if z = true then 11 else if 60 < t.depth then 43 else 0) else 1) := Lib.hid (by unfold T.chk; rw [hz])
  obtain ⟨d, hdd⟩ : ∃ d, t.depth = d := ⟨_, rfl⟩
  rw [hdd] at HCK hd
  rw [hmade] at HCK
  have HM := Lib.hid hm
  have HQ := Lib.hid hq
  have HZ := Lib.hid hz
  have HD := Lib.hid hdd
  have hT := Below.refl (w.alloc (.cells #[.int .i64 t.k, .string t.nm, .slice A1 t.ns.length c1, .bool t.ng, .slice A2 t.mg.length c2, .slice A3 n c3] 28)).heap.size (w.alloc (.cells #[.int .i64 t.k, .string t.nm, .slice A1 t.ns.length c1, .bool t.ng, .slice A2 t.mg.length c2, .slice A3 n c3] 28))
  clear hm hz hdd hq hmade
  by_cases h60 : 60 < d
  all_goals
   first
     | have d1 : decide (60 < d) = true := decide_eq_true (by omega)
     | have d1 : decide (60 < d) = false := decide_eq_false (by omega)
   have d2 : decide ((d : Int) > 60) = decide (60 < d) := by rw [decide_eq_decide]; omega
   rw [d1] at d2
   have H6 := Lib.hid h60
   clear h60 hT
   cases q <;> cases m <;> cases z
   all_goals
    go_enter Tryz.func20, Tryz.ntmps20
    go_wp2_with (first
     | (go_at_call 48; refine (term_r _ _).mono ?_; rw [HQ.out]; rintro e w1 ⟨rfl, rfl⟩)
     | (go_at_call 49; refine (may_t 1048576 t _ R _ hN (by omega) HI.out).mono ?_; rw [HM.out]; rintro e w2 ⟨rfl, hb2⟩; obtain ⟨x0, x1, x2, x3, x4, x5⟩ := (pt.below hb2).six; have HI2 := Lib.hid (HI.out.below hb2))
     | (go_at_call 50; refine (rnone_t 1048576 t _ R _ hN (by omega) HI2.out).mono ?_; rw [HZ.out]; rintro e w3 ⟨rfl, hb3⟩; obtain ⟨y0, y1, y2, y3, y4, y5⟩ := (pt.below (below_on hb2 hb3)).six; have HI3 := Lib.hid (HI2.out.below hb3))
     | (go_at_call 32; refine (rdepth_t 1048576 t _ R _ hN (by omega) HI3.out).mono ?_; rw [HD.out]; rintro e w4 ⟨rfl, hb4⟩))
    go_ret
    exact ⟨by rw [HCK.out]; have := H6.out; simp [this]; try rfl, by first | exact below_on (below_on (below_on HAL.out hb2) hb3) hb4 | exact below_on (below_on HAL.out hb2) hb3 | exact below_on HAL.out hb2⟩
end
section
open Go.RowKit
set_option maxRecDepth 100000 in
set_option maxHeartbeats 1600000 in
theorem ints_eq (w : World) (R R' : Nat → Prop) (ng : Bool) (A A' : Option Addr) (c c' : Nat) (mg : List Nat) (h : SlR w R A c mg) (h' : SlR w R' A' c' mg) (hl : mg.length ≤ 1048576) :
    Calls Tryz.prog 41 #[.agg #[.bool ng, .slice A mg.length c], .agg #[.bool ng, .slice A' mg.length c']] w fun e w' => e = .returned (.bool true) ∧ Below w.heap.size w w' := by
  obtain ⟨W, hW, p0, p1, hsz, hb0⟩ := enter2r w 25 (.bool ng) (.slice A mg.length c) (.bool ng) (.slice A' mg.length c')
  have hs := (h.below hb0).1
  have hs' := (h'.below hb0).1
  have hcap := hs.cap
  have hcap' := hs'.cap
  obtain ⟨n, hn⟩ : ∃ n, mg.length = n := ⟨_, rfl⟩
  rw [hn] at p0 p1 hW hl hs hs' hcap hcap' ⊢
  have HS := Lib.hid hs
  have HS' := Lib.hid hs'
  obtain ⟨_, _, c0, c1⟩ := p0.facts
  obtain ⟨_, _, d0, d1⟩ := p1.facts
  clear h h' hn hs hs'
  go_enter Tryz.func41, Tryz.ntmps41
  go_upto_region 1 with (fail)
  rw [← hW]
  clear hW
  go_wp2_with fail
  go_loopg [5] (n + 1) (fun gk v5 wr => ∃ i : Nat, gk + i = n + 1 ∧ i ≤ n ∧ v5 = .int .i64 (i : Nat) ∧ Below W.heap.size W wr)
  case atStart => exact ⟨0, by omega, Nat.zero_le _, rfl, Below.refl _ _⟩
  case round =>
   clear c0 c1 d0 d1
   obtain ⟨i, hi, hin, rfl, hS⟩ := hrel
   obtain ⟨_, _, c0, c1⟩ := (p0.below hS).facts
   obtain ⟨_, _, d0, d1⟩ := (p1.below hS).facts
   by_cases hlt : i < n
   ·
    have hi3 : decide (i < n) = true := decide_eq_true hlt
    obtain ⟨b, o, rfl, hc⟩ := (HS.out.below hS).cells (by omega)
    obtain ⟨b', o', rfl, hc'⟩ := (HS'.out.below hS).cells (by omega)
    have e0 := hc i hlt
    have e1 := hc' i hlt
    obtain ⟨z, hz⟩ : ∃ z, N.dg mg i = z := ⟨_, rfl⟩
    rw [hz] at e0 e1
    have hi0 : (0 : Int) ≤ i := by omega
    have hi1 : (i : Int) < n := by omega
    clear hc hc' hz
    go_wp2_with fail
    go_quiet (fail)
    go_wp2_with fail
    go_roundg (n - i)
    case measure => omega
    case rel => exact ⟨i + 1, by omega, by omega, by go_num, below_drewN hS _⟩
   · have hi3 : decide (i < n) = false := decide_eq_false hlt
     obtain rfl : i = n := by omega
     go_wp2_with fail
     go_ret
     exact ⟨rfl, below_on hb0 hS⟩
theorem eq_open {t u : T} (h : t = u) : t.k = u.k ∧ t.nm = u.nm ∧ t.ns = u.ns ∧ t.ng = u.ng ∧ t.mg = u.mg ∧ t.ks.length = u.ks.length ∧ ∀ i, t.ks.getD i t0 = u.ks.getD i t0 := by subst h; exact ⟨rfl, rfl, rfl, rfl, rfl, rfl, fun _ => rfl⟩
set_option maxRecDepth 100000 in
set_option maxHeartbeats 6400000 in
theorem exact_t : ∀ (N : Nat) (t u : T) (w : World) (R R' : Nat → Prop) (v v' : Value), t.bulk ≤ N → u.bulk ≤ N → N ≤ 1048576 → t = u → T.In w R t v → T.In w R' u v' →
    Calls Tryz.prog 13 #[v, v'] w fun e w' => e = .returned (.bool true) ∧ Below w.heap.size w w'
  | 0, t, _, _, _, _, _, _, hN, _, _, _, _, _ => by have := T.bulk_pos t; omega
  | N + 1, t, u, w, R, R', v, v', hN, hN', hN2, hrel, h, h' => by
   have ih := exact_t N
   obtain ⟨A1, c1, A2, c2, A3, c3, rfl, hnames, hmag, hc3, hkids⟩ := h.open
   obtain ⟨D1, d1, D2, d2, D3, d3, rfl, gnames, gmag, gc3, gkids⟩ := h'.open
   obtain ⟨hl1, hl2, hl3, hl4, hlen⟩ := T.len_le hN
   obtain ⟨gl1, gl2, gl3, gl4, glen⟩ := T.len_le hN'
   obtain ⟨q1, q2, q3, q4, q5, q6, qk⟩ := eq_open hrel
   have HNUM := Lib.hid (fun (w2 : World) (hb : Below w.heap.size w w2) => show Calls Tryz.prog 41 #[.agg #[.bool t.ng, .slice A2 t.mg.length c2], .agg #[.bool u.ng, .slice D2 u.mg.length d2]] w2 fun e w' => e = .returned (.bool true) ∧ Below w2.heap.size w2 w' from by rw [← q4, ← q5]; rw [← q5] at gmag; exact ints_eq w2 R R' t.ng A2 D2 c2 d2 t.mg (hmag.below hb) (gmag.below hb) (by omega))
   obtain ⟨n, hn⟩ : ∃ n, t.ks.length = n := ⟨_, rfl⟩
   obtain ⟨m, hm⟩ : ∃ m, t.ns.length = m := ⟨_, rfl⟩
   have hn' : u.ks.length = n := by rw [← q6, hn]
   have hm' : u.ns.length = m := by rw [← q3, hm]
   rw [← q3] at gnames
   obtain ⟨hcp1, hns⟩ := hnames
   obtain ⟨gcp1, gns⟩ := gnames
   rw [hn] at hkids hc3 hlen ⊢
   rw [hn'] at gkids gc3 glen ⊢
   rw [hm] at hl2 hns hcp1 ⊢
   rw [hm'] at gl2 ⊢
   rw [hm] at gns gcp1
   rw [← q1, ← q2]
   obtain ⟨k, hk0⟩ : ∃ k, t.k = k := ⟨_, rfl⟩
   obtain ⟨nm, hnm0⟩ : ∃ k, t.nm = k := ⟨_, rfl⟩
   rw [hk0, hnm0]
   obtain ⟨ml, hml⟩ : ∃ k, t.mg.length = k := ⟨_, rfl⟩
   obtain ⟨ml', hml'⟩ : ∃ k, u.mg.length = k := ⟨_, rfl⟩
   obtain ⟨ng, hng⟩ : ∃ k, t.ng = k := ⟨_, rfl⟩
   obtain ⟨ng', hng'⟩ : ∃ k, u.ng = k := ⟨_, rfl⟩
   rw [hml, hng] at HNUM ⊢
   rw [hml', hng'] at HNUM ⊢
   have HN := Lib.hid hn
   have HN' := Lib.hid hn'
   have HK := Lib.hid hkids
   have HK' := Lib.hid gkids
   have HB := Lib.hid hN
   have HB' := Lib.hid hN'
   have HNS := Lib.hid hns
   have HNS' := Lib.hid gns
   have HQK := Lib.hid qk
   clear hn hn' hm hm' hkids gkids hN hN' hns gns qk q1 q2 q3 q4 q5 q6 hrel h h' hmag gmag hk0 hnm0 hml hml' hng hng'
   go_enter Tryz.func13, Tryz.ntmps13
   go_upto_region 1 with (fail)
   obtain ⟨W0, hW0, pt0, hb0⟩ := made_blk w #[.int .i64 k, .string nm, .slice A1 m c1, .bool ng, .slice A2 ml c2, .slice A3 n c3] 28
   have hsz0 : W0.heap.size = w.heap.size + 1 := by rw [hW0]; simp
   obtain ⟨Bt, hBt⟩ : ∃ b, b = w.heap.size := ⟨_, rfl⟩
   rw [← hW0, ← hBt]
   rw [← hBt] at pt0 hsz0
   obtain ⟨W1, hW1, pu, hb1⟩ := made_blk W0 #[.int .i64 k, .string nm, .slice D1 m d1, .bool ng', .slice D2 ml' d2, .slice D3 n d3] 28
   rw [← hW1]
   rw [hsz0] at pu
   have pt := pt0.below hb1
   have hb1 := below_on hb0 hb1
   clear hW0 hW1 hb0 hBt hsz0 pt0
   obtain ⟨x0, x1, x2, x3, x4, x5⟩ := pt.six
   obtain ⟨y0, y1, y2, y3, y4, y5⟩ := pu.six
   go_upto_region 3 with (go_at_call 41; refine (HNUM.out _ hb1).mono ?_; rintro e w2 ⟨rfl, hb2⟩)
   clear x0 x1 x2 x3 x4 x5 y0 y1 y2 y3 y4 y5
   have pt := pt.below hb2
   have pu := pu.below hb2
   have hb3 := below_on hb1 hb2
   clear hb1 hb2
   obtain ⟨x0, x1, x2, x3, x4, x5⟩ := pt.six
   obtain ⟨y0, y1, y2, y3, y4, y5⟩ := pu.six
   go_wp2_with fail
   go_loopg [5] (m + 1) (fun gk v5 wr => ∃ i : Nat, gk + i = m + 1 ∧ i ≤ m ∧ v5 = .int .i64 (i : Nat) ∧ Below w2.heap.size w2 wr)
   case atStart => exact ⟨0, by omega, Nat.zero_le _, rfl, Below.refl _ _⟩
   case round =>
    clear x0 x1 x2 x3 x4 x5 y0 y1 y2 y3 y4 y5
    obtain ⟨i, hi, hin, rfl, hS⟩ := hrel
    obtain ⟨x0, x1, x2, x3, x4, x5⟩ := (pt.below hS).six
    obtain ⟨y0, y1, y2, y3, y4, y5⟩ := (pu.below hS).six
    by_cases hlt : i < m
    ·
     have hi3 : decide (i < m) = true := decide_eq_true hlt
     obtain ⟨b, o, rfl, _, hc⟩ := HNS.out (by omega)
     obtain ⟨b', o', rfl, _, hc'⟩ := HNS'.out (by omega)
     have e0 := keep_cell (hc i hlt) (below_on hb3 hS)
     have e1 := keep_cell (hc' i hlt) (below_on hb3 hS)
     obtain ⟨z, hz⟩ : ∃ z, t.ns.getD i ⟨#[]⟩ = z := ⟨_, rfl⟩
     rw [hz] at e0 e1
     have hi0 : (0 : Int) ≤ i := by omega
     have hi1 : (i : Int) < m := by omega
     clear hc hc' hz
     go_wp2_with fail
     go_quiet (fail)
     go_wp2_with fail
     go_roundg (m - i)
     case measure => omega
     case rel => exact ⟨i + 1, by omega, by omega, by go_num, below_drewN hS _⟩
    ·
     have hi3 : decide (i < m) = false := decide_eq_false hlt
     obtain rfl : i = m := by omega
     have pt := pt.below hS
     have pu := pu.below hS
     have hb4 := below_on hb3 hS
     obtain ⟨wq, hwq⟩ : ∃ w', w' = wr := ⟨_, rfl⟩
     rw [← hwq] at pt pu hb4 x0 x1 x2 x3 x4 x5 y0 y1 y2 y3 y4 y5 ⊢
     clear hS hwq hb3
     go_wp2_with fail
     go_loopg [6] (n + 1) (fun gk v6 wr => ∃ j : Nat, gk + j = n + 1 ∧ j ≤ n ∧ v6 = .int .i64 (j : Nat) ∧ Below wq.heap.size wq wr)
     case atStart => exact ⟨0, by omega, Nat.zero_le _, rfl, Below.refl _ _⟩
     case round =>
      clear x0 x1 x2 x3 x4 x5 y0 y1 y2 y3 y4 y5
      obtain ⟨j, hj, hjn, rfl, hS⟩ := hrel
      have x5 := (pt.below hS).six.2.2.2.2.2
      have y5 := (pu.below hS).six.2.2.2.2.2
      by_cases hlt : j < n
      ·
       have hi3 : decide (j < n) = true := decide_eq_true hlt
       obtain ⟨b, o, rfl, hk⟩ := HK.out (by omega)
       obtain ⟨b', o', rfl, hk'⟩ := HK'.out (by omega)
       have hkd := (hk j hlt).below (below_on hb4 hS)
       have hkd' := (hk' j hlt).below (below_on hb4 hS)
       have hqk := HQK.out j
       have hub := T.kid_bulk HB.out (show j < t.ks.length by rw [HN.out]; exact hlt)
       have hub' := T.kid_bulk HB'.out (show j < u.ks.length by rw [HN'.out]; exact hlt)
       obtain ⟨a, ha⟩ : ∃ a, t.ks.getD j t0 = a := ⟨_, rfl⟩
       obtain ⟨a', ha'⟩ : ∃ a, u.ks.getD j t0 = a := ⟨_, rfl⟩
       rw [ha] at hkd hqk hub
       rw [ha'] at hkd' hqk hub'
       have HQ := Lib.hid hqk
       clear hk hk' ha ha' hqk
       obtain ⟨B1, b1, B2, b2, B3, b3, h6, hkin⟩ := hkd
       obtain ⟨G1, g1, G2, g2, G3, g3, h6', hkin'⟩ := hkd'
       obtain ⟨e0, e1, e2, e3, e4, e5⟩ := h6
       obtain ⟨f0, f1, f2, f3, f4, f5⟩ := h6'
       have HI := Lib.hid (fun (w' : World) (hb : Below wr.heap.size wr w') => hkin.below hb)
       have HI' := Lib.hid (fun (w' : World) (hb : Below wr.heap.size wr w') => hkin'.below hb)
       have hi0 : (0 : Int) ≤ j := by omega
       have hi1 : (j : Int) < n := by omega
       have hS0 : ∀ w', Below wr.heap.size wr w' → (fun w' => (w'.cell? ⟨Bt, 5, none⟩ = some (.slice (some ⟨b, o, none⟩) n c3) ∧ w'.cell? ⟨Bt + 1, 5, none⟩ = some (.slice (some ⟨b', o', none⟩) n d3) ∧ w'.cell? ⟨b, o + j * 6, none⟩ = some (.int .i64 a.k) ∧ w'.cell? ⟨b, o + j * 6 + 1, none⟩ = some (.string a.nm) ∧ w'.cell? ⟨b, o + j * 6 + 2, none⟩ = some (.slice B1 a.ns.length b1) ∧ w'.cell? ⟨b, o + j * 6 + 3, none⟩ = some (.bool a.ng) ∧ w'.cell? ⟨b, o + j * 6 + 4, none⟩ = some (.slice B2 a.mg.length b2) ∧ w'.cell? ⟨b, o + j * 6 + 5, none⟩ = some (.slice B3 a.ks.length b3) ∧ w'.cell? ⟨b', o' + j * 6, none⟩ = some (.int .i64 a'.k) ∧ w'.cell? ⟨b', o' + j * 6 + 1, none⟩ = some (.string a'.nm) ∧ w'.cell? ⟨b', o' + j * 6 + 2, none⟩ = some (.slice G1 a'.ns.length g1) ∧ w'.cell? ⟨b', o' + j * 6 + 3, none⟩ = some (.bool a'.ng) ∧ w'.cell? ⟨b', o' + j * 6 + 4, none⟩ = some (.slice G2 a'.mg.length g2) ∧ w'.cell? ⟨b', o' + j * 6 + 5, none⟩ = some (.slice G3 a'.ks.length g3)) ∧ Below wr.heap.size wr w') w' := fun w' h =>
        ⟨⟨keep_cell x5 h, keep_cell y5 h, keep_cell e0 h, keep_cell e1 h, keep_cell e2 h, keep_cell e3 h, keep_cell e4 h, keep_cell e5 h, keep_cell f0 h, keep_cell f1 h, keep_cell f2 h, keep_cell f3 h, keep_cell f4 h, keep_cell f5 h⟩, h⟩
       have HS0 := Lib.hid hS0
       have HSW := Lib.hid hS
       clear hkin hkin' hS0 hS
       go_upto_region 11 with (fail)
       have hS : Below wr.heap.size wr wr := Below.refl _ _
       clear x5 y5 e0 e1 e2 e3 e4 e5 f0 f1 f2 f3 f4 f5
       go_region_held3 (fun w' => (w'.cell? ⟨Bt, 5, none⟩ = some (.slice (some ⟨b, o, none⟩) n c3) ∧ w'.cell? ⟨Bt + 1, 5, none⟩ = some (.slice (some ⟨b', o', none⟩) n d3) ∧ w'.cell? ⟨b, o + j * 6, none⟩ = some (.int .i64 a.k) ∧ w'.cell? ⟨b, o + j * 6 + 1, none⟩ = some (.string a.nm) ∧ w'.cell? ⟨b, o + j * 6 + 2, none⟩ = some (.slice B1 a.ns.length b1) ∧ w'.cell? ⟨b, o + j * 6 + 3, none⟩ = some (.bool a.ng) ∧ w'.cell? ⟨b, o + j * 6 + 4, none⟩ = some (.slice B2 a.mg.length b2) ∧ w'.cell? ⟨b, o + j * 6 + 5, none⟩ = some (.slice B3 a.ks.length b3) ∧ w'.cell? ⟨b', o' + j * 6, none⟩ = some (.int .i64 a'.k) ∧ w'.cell? ⟨b', o' + j * 6 + 1, none⟩ = some (.string a'.nm) ∧ w'.cell? ⟨b', o' + j * 6 + 2, none⟩ = some (.slice G1 a'.ns.length g1) ∧ w'.cell? ⟨b', o' + j * 6 + 3, none⟩ = some (.bool a'.ng) ∧ w'.cell? ⟨b', o' + j * 6 + 4, none⟩ = some (.slice G2 a'.mg.length g2) ∧ w'.cell? ⟨b', o' + j * 6 + 5, none⟩ = some (.slice G3 a'.ks.length g3)) ∧ Below wr.heap.size wr w')
        (first | exact HS0.out _ (by with_reducible assumption) | exact HS0.out _ (Below.drew (by with_reducible assumption)))
        (first
          | (go_at_call 13; refine (ih a a' _ R R' _ _ hub hub' (by omega) HQ.out (HI.out _ (s_below (by with_reducible assumption))) (HI'.out _ (s_below (by with_reducible assumption)))).mono ?_; rintro e wn ⟨rfl, hb⟩; have hS2 := below_on (s_below (by with_reducible assumption)) hb; clear hS; have hS := hS2; clear hS2 hb))
       replace hS := below_on HSW.out hS
       go_wp2_with fail
       go_roundg (n - j)
       case measure => omega
       case rel => exact ⟨j + 1, by omega, by omega, by go_num, hS⟩
      · have hi3 : decide (j < n) = false := decide_eq_false hlt
        obtain rfl : j = n := by omega
        go_wp2_with fail
        go_ret
        exact ⟨rfl, below_on hb4 hS⟩
end
end Go.Proofs.YthiadenmljbdaaaGreatDoor

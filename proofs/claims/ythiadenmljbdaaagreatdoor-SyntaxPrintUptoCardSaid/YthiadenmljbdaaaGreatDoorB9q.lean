/-
  q: the parts YMay.
-/
import Derived.Test.YthiadenmljbdaaaGreatDoorB8q
import Derived.Deep.CutRange
namespace Go.Proofs.YthiadenmljbdaaaGreatDoor
section
open Go.RowKit
def T.nmOK (t : T) : Bool := if t.k == 2 then nameB t.nm else t.nm.size == 0
def T.nsOK (t : T) : Bool := if namesK t.k then namesB t.ns && decide (0 < t.ns.length) else t.ns.length == 0
def T.numOK (t : T) : Bool := if numK t.k then standsB t.ng t.mg else bareB t.ng t.mg
def T.cntOK (t : T) : Bool := decide (leastK t.k ≤ t.ks.length) && (decide (mostK t.k < 0) || decide ((t.ks.length : Int) ≤ mostK t.k))
mutual
def T.may : T → Bool
 | .node k nm ns ng mg ks => okK k && ((if k == 2 then nameB nm else nm.size == 0) && ((if namesK k then namesB ns && decide (0 < ns.length) else ns.length == 0) && ((if numK k then standsB ng mg else bareB ng mg) && ((decide (leastK k ≤ ks.length) && (decide (mostK k < 0) || decide ((ks.length : Int) ≤ mostK k))) && T.mays (termsK k) ks))))
def T.mays : Bool → List T → Bool
 | _, [] => true
 | b, t :: r => ((termK t.k == b) && t.may) && T.mays b r
end
theorem T.may_eq (t : T) : t.may = (okK t.k && (t.nmOK && (t.nsOK && (t.numOK && (t.cntOK && T.mays (termsK t.k) t.ks))))) := by cases t; rfl
theorem T.mays_snoc (b : Bool) : ∀ (l : List T) (t : T), T.mays b (l ++ [t]) = (T.mays b l && ((termK t.k == b) && t.may))
 | [], t => by simp [T.mays]
 | u :: r, t => by simp [T.mays, T.mays_snoc b r t, Bool.and_assoc]
theorem T.mays_get (b : Bool) : ∀ (l : List T) (i : Nat), i < l.length → ((termK (l.getD i t0).k == b) && (l.getD i t0).may) = false → T.mays b l = false
 | [], i, h, _ => absurd h (by simp)
 | t :: r, 0, _, h => by
  have h' : ((termK t.k == b) && t.may) = false := by simpa using h
  rw [T.mays, h']; rfl
 | t :: r, i + 1, h, h2 => by
  have := T.mays_get b r i (by simpa using h) (by simpa using h2)
  rw [T.mays, this]; simp
theorem nm_empty (s : ByteArray) : (s.size = 0 → (s.toList == []) = true ∧ (s.toList != []) = false) ∧ (s.size ≠ 0 → (s.toList == []) = false ∧ (s.toList != []) = true) := by
 have h : s.toList = [] ↔ s.size = 0 := by
  rw [ByteArray.toList_eq, ← size_list]
  exact List.length_eq_zero_iff.symm
 refine ⟨fun h0 => ?_, fun h0 => ?_⟩
 · rw [h.2 h0]; exact ⟨rfl, rfl⟩
 · have hne : s.toList ≠ [] := fun e => h0 (h.1 e)
   exact ⟨by simpa using hne, by simpa using hne⟩
set_option maxRecDepth 100000 in
set_option maxHeartbeats 6400000 in
theorem may_t : ∀ (N : Nat) (t : T) (w : World) (R : Nat → Prop) (v : Value), t.bulk ≤ N → N ≤ 1048576 → T.In w R t v →
    Calls Tryz.prog 49 #[v] w fun e w' => e = .returned (.bool t.may) ∧ Below w.heap.size w w'
  | 0, t, _, _, _, hN, _, _ => by have := T.bulk_pos t; omega
  | N + 1, t, w, R, v, hN, hN2, h => by
   have ih := may_t N
   obtain ⟨A1, c1, A2, c2, A3, c3, rfl, hnames, hmag, hc3, hkids⟩ := h.open
   obtain ⟨n, hn⟩ : ∃ n, t.ks.length = n := ⟨_, rfl⟩
   obtain ⟨hl1, hl2, hl3, hl4, hlen⟩ := T.len_le hN
   rw [hn] at hkids hc3 hlen ⊢
   have HN := Lib.hid hn
   have HK := Lib.hid hkids
   have HB := Lib.hid hN
   have HNM := Lib.hid hnames
   have HMG := Lib.hid hmag
   clear hn hkids hN h hnames hmag
   go_enter Tryz.func49, Tryz.ntmps49
   go_upto_region 1 with (fail)
   obtain ⟨W1, hW1, pt, hb1⟩ := made_blk w #[.int .i64 t.k, .string t.nm, .slice A1 t.ns.length c1, .bool t.ng, .slice A2 t.mg.length c2, .slice A3 n c3] 28
   obtain ⟨Bt, hBt⟩ : ∃ b, b = w.heap.size := ⟨_, rfl⟩
   rw [← hW1, ← hBt]
   rw [← hBt] at pt
   clear hW1 hBt
   obtain ⟨x0, x1, x2, x3, x4, x5⟩ := pt.six
   have HE := Lib.hid (T.may_eq t)
   by_cases hok : 1 ≤ t.k ∧ t.k ≤ 22
   case neg =>
    have hf : okK t.k = false := by
     unfold okK
     by_cases h2 : 1 ≤ t.k
     · rw [decide_eq_false (show ¬ t.k ≤ 22 from fun h => hok ⟨h2, h⟩)]; simp
     · rw [decide_eq_false h2]; simp
    have HF := Lib.hid hf
    clear hf
    by_cases h1 : 1 ≤ t.k
    · have d1 : decide (t.k < 1) = false := decide_eq_false (by omega)
      have d2 : decide (t.k > 22) = true := decide_eq_true (by omega)
      have d3 : decide (22 < t.k) = true := decide_eq_true (by omega)
      clear hok
      go_wp2_with fail
      go_ret
      exact ⟨by rw [HE.out, HF.out]; rfl, hb1⟩
    · have d1 : decide (t.k < 1) = true := decide_eq_true (by omega)
      clear hok
      go_wp2_with fail
      go_ret
      exact ⟨by rw [HE.out, HF.out]; rfl, hb1⟩
   case pos =>
    have hf : okK t.k = true := by
     unfold okK
     rw [decide_eq_true hok.1, decide_eq_true hok.2]; rfl
    have HF := Lib.hid hf
    have HOK := Lib.hid hok
    have d1 : decide (t.k < 1) = false := decide_eq_false (by omega)
    have d2 : decide (t.k > 22) = false := decide_eq_false (by omega)
    have d3 : decide (22 < t.k) = false := decide_eq_false (by omega)
    clear hf hok
    go_upto_if 22 with (fail)
    go_cut [3, 22] from 120 (fun _ _ wc => t.nmOK = true ∧ Below W1.heap.size W1 wc)
    case first =>
     by_cases k2 : t.k = 2
     ·
      have e2 : (t.k == 2) = true := by simp [k2]
      obtain ⟨r, hr⟩ : ∃ r, nameB t.nm = r := ⟨_, rfl⟩
      have hq : t.nmOK = r := by unfold T.nmOK; rw [if_pos e2, hr]
      have HR := Lib.hid hr
      have HQ := Lib.hid hq
      clear hr hq k2
      cases r
      · go_wp2_with (go_at_call 88; refine (isname_r _ t.nm (by omega)).mono ?_; rw [show X.name t.nm.data.toList = false from HR.out]; rintro e w2 ⟨rfl, rfl⟩)
        go_ret
        exact ⟨by rw [HE.out, HQ.out]; simp, hb1⟩
      · go_wp2_with (go_at_call 88; refine (isname_r _ t.nm (by omega)).mono ?_; rw [show X.name t.nm.data.toList = true from HR.out]; rintro e w2 ⟨rfl, rfl⟩)
        go_meet
        exact ⟨HQ.out, Below.refl _ _⟩
     ·
      have e2 : (t.k == 2) = false := by simp [k2]
      by_cases hz : t.nm.size = 0
      · obtain ⟨z1, z2⟩ := (nm_empty t.nm).1 hz
        have hq : t.nmOK = true := by unfold T.nmOK; rw [if_neg (by simp [k2]), hz]; rfl
        have HQ := Lib.hid hq
        clear hq k2 hz
        go_wp2_with fail
        go_meet
        exact ⟨HQ.out, Below.refl _ _⟩
      · obtain ⟨z1, z2⟩ := (nm_empty t.nm).2 hz
        have hq : t.nmOK = false := by unfold T.nmOK; rw [if_neg (by simp [k2])]; simpa using hz
        have HQ := Lib.hid hq
        clear hq k2 hz
        go_wp2_with fail
        go_ret
        exact ⟨by rw [HE.out, HQ.out]; simp, hb1⟩
    case rest =>
     clear x0 x1 x2 x3 x4 x5
     obtain ⟨hnm, hS⟩ := hcut
     have HNMO := Lib.hid hnm
     clear hnm
     obtain ⟨x0, x1, x2, x3, x4, x5⟩ := (pt.below hS).six
     go_upto_region 9 with (fail)
     go_cut [38] from 120 (fun v38 wd => v38 = .bool (namesK t.k) ∧ wd = wc)
     case first =>
      by_cases k21 : t.k = 21
      · have e21 : (t.k == 21) = true := by simp [k21]
        have HQ : Hid (namesK t.k = true) := Lib.hid (by simp [namesK, k21])
        clear k21
        go_wp2_with fail
        go_meet
        exact ⟨by rw [HQ.out], rfl⟩
      ·
       have e21 : (t.k == 21) = false := by simp [k21]
       by_cases k22 : t.k = 22
       · have e22 : (t.k == 22) = true := by simp [k22]
         have HQ : Hid (namesK t.k = true) := Lib.hid (by simp [namesK, k22])
         clear k22
         go_wp2_with fail
         go_meet
         exact ⟨by rw [HQ.out], rfl⟩
       · have e22 : (t.k == 22) = false := by simp [k22]
         have HQ : Hid (namesK t.k = false) := Lib.hid (by simp [namesK, k21, k22])
         clear k21 k22
         go_wp2_with fail
         go_meet
         exact ⟨by rw [HQ.out], rfl⟩
     case rest =>
      obtain ⟨rfl, rfl⟩ := hcut
      obtain ⟨b, hb⟩ : ∃ b, namesK t.k = b := ⟨_, rfl⟩
      have HBN := Lib.hid hb
      rw [hb]
      clear hb
      go_upto_if 38 with (fail)
      go_cut [4] from 120 (fun _ wc => t.nsOK = true ∧ Below W1.heap.size W1 wc)
      case first =>
       cases b
       ·
        by_cases hz : t.ns.length = 0
        · have HQ : Hid (t.nsOK = true) := Lib.hid (by unfold T.nsOK; rw [if_neg (by rw [HBN.out]; simp), hz]; rfl)
          have z1 : decide ((t.ns.length : Int) > 0) = false := decide_eq_false (by omega)
          have z2 : decide (0 < t.ns.length) = false := decide_eq_false (by omega)
          clear hz
          go_wp2_with fail
          go_meet
          exact ⟨HQ.out, hS⟩
        · have HQ : Hid (t.nsOK = false) := Lib.hid (by unfold T.nsOK; rw [if_neg (by rw [HBN.out]; simp)]; simpa using hz)
          have z1 : decide ((t.ns.length : Int) > 0) = true := decide_eq_true (by omega)
          have z2 : decide (0 < t.ns.length) = true := decide_eq_true (by omega)
          clear hz
          go_wp2_with fail
          go_ret
          exact ⟨by rw [HE.out, HQ.out]; simp, below_on hb1 hS⟩
       ·
        obtain ⟨r, hr⟩ : ∃ r, (namesB t.ns && decide (0 < t.ns.length)) = r := ⟨_, rfl⟩
        have HQ : Hid (t.nsOK = r) := Lib.hid (by unfold T.nsOK; rw [if_pos HBN.out, hr])
        have HR := Lib.hid hr
        have HST := Lib.hid (HNM.out.below (below_on hb1 hS))
        clear hr
        cases r
        · go_wp2_with (go_at_call 89; refine (names_r _ R _ _ _ HST.out (by omega)).mono ?_; rw [HR.out]; rintro e w2 ⟨rfl, rfl⟩)
          go_ret
          exact ⟨by rw [HE.out, HQ.out]; simp, below_on hb1 hS⟩
        · go_wp2_with (go_at_call 89; refine (names_r _ R _ _ _ HST.out (by omega)).mono ?_; rw [HR.out]; rintro e w2 ⟨rfl, rfl⟩)
          go_meet
          exact ⟨HQ.out, hS⟩
      case rest =>
       clear x0 x1 x2 x3 x4 x5 hS
       obtain ⟨hns, hS⟩ := hcut
       have HNSO := Lib.hid hns
       clear hns
       obtain ⟨x0, x1, x2, x3, x4, x5⟩ := (pt.below hS).six
       go_upto_region 15 with (fail)
       go_cut [60] from 120 (fun v60 wd => v60 = .bool (numK t.k) ∧ wd = wc)
       case first =>
        by_cases k1 : t.k = 1
        · have e1 : (t.k == 1) = true := by simp [k1]
          have HQ : Hid (numK t.k = true) := Lib.hid (by simp [numK, k1])
          clear k1
          go_wp2_with fail
          go_meet
          exact ⟨by rw [HQ.out], rfl⟩
        ·
         have e1 : (t.k == 1) = false := by simp [k1]
         by_cases k6 : t.k = 6
         · have e6 : (t.k == 6) = true := by simp [k6]
           have HQ : Hid (numK t.k = true) := Lib.hid (by simp [numK, k6])
           clear k6
           go_wp2_with fail
           go_meet
           exact ⟨by rw [HQ.out], rfl⟩
         ·
          have e6 : (t.k == 6) = false := by simp [k6]
          by_cases k15 : t.k = 15
          · have e15 : (t.k == 15) = true := by simp [k15]
            have HQ : Hid (numK t.k = true) := Lib.hid (by simp [numK, k15])
            clear k15
            go_wp2_with fail
            go_meet
            exact ⟨by rw [HQ.out], rfl⟩
          · have e15 : (t.k == 15) = false := by simp [k15]
            have HQ : Hid (numK t.k = false) := Lib.hid (by simp [numK, k1, k6, k15])
            clear k1 k6 k15
            go_wp2_with fail
            go_meet
            exact ⟨by rw [HQ.out], rfl⟩
       case rest =>
        obtain ⟨rfl, rfl⟩ := hcut
        obtain ⟨b, hb⟩ : ∃ b, numK t.k = b := ⟨_, rfl⟩
        have HBU := Lib.hid hb
        rw [hb]
        clear hb
        go_upto_if 60 with (fail)
        go_cut [5] from 120 (fun _ wc => t.numOK = true ∧ Below W1.heap.size W1 wc)
        case first =>
         cases b
         · obtain ⟨r, hr⟩ : ∃ r, bareB t.ng t.mg = r := ⟨_, rfl⟩
           have HQ : Hid (t.numOK = r) := Lib.hid (by unfold T.numOK; rw [if_neg (by rw [HBU.out]; simp), hr])
           have HR := Lib.hid hr
           clear hr
           cases r
           · go_wp2_with (go_at_call 91; refine (zero_r _ _ _ _ _).mono ?_; rw [HR.out]; rintro e w2 ⟨rfl, hb2⟩; have hS2 := below_on hS hb2)
             go_ret
             exact ⟨by rw [HE.out, HQ.out]; simp, below_on hb1 hS2⟩
           · go_wp2_with (go_at_call 91; refine (zero_r _ _ _ _ _).mono ?_; rw [HR.out]; rintro e w2 ⟨rfl, hb2⟩; have hS2 := below_on hS hb2)
             go_meet
             exact ⟨HQ.out, hS2⟩
         · obtain ⟨r, hr⟩ : ∃ r, standsB t.ng t.mg = r := ⟨_, rfl⟩
           have HQ : Hid (t.numOK = r) := Lib.hid (by unfold T.numOK; rw [if_pos HBU.out, hr])
           have HR := Lib.hid hr
           have HST := Lib.hid (HMG.out.below (below_on hb1 hS))
           clear hr
           cases r
           · go_wp2_with (go_at_call 90; refine (stands_r _ R _ _ _ _ HST.out (by omega)).mono ?_; rw [HR.out]; rintro e w2 ⟨rfl, hb2⟩; have hS2 := below_on hS hb2)
             go_ret
             exact ⟨by rw [HE.out, HQ.out]; simp, below_on hb1 hS2⟩
           · go_wp2_with (go_at_call 90; refine (stands_r _ R _ _ _ _ HST.out (by omega)).mono ?_; rw [HR.out]; rintro e w2 ⟨rfl, hb2⟩; have hS2 := below_on hS hb2)
             go_meet
             exact ⟨HQ.out, hS2⟩
        case rest =>
         clear x0 x1 x2 x3 x4 x5 hS
         obtain ⟨hnu, hS⟩ := hcut
         have HNUO := Lib.hid hnu
         clear hnu
         obtain ⟨x0, x1, x2, x3, x4, x5⟩ := (pt.below hS).six
         obtain ⟨lk, hlk⟩ : ∃ lk, leastK t.k = lk := ⟨_, rfl⟩
         obtain ⟨mk, hmk⟩ : ∃ mk, mostK t.k = mk := ⟨_, rfl⟩
         obtain ⟨tk, htk⟩ : ∃ tk, termsK t.k = tk := ⟨_, rfl⟩
         have hcnt : t.cntOK = (decide (lk ≤ n) && (decide (mk < 0) || decide ((n : Int) ≤ mk))) := by unfold T.cntOK; rw [hlk, hmk, HN.out]
         have HL := Lib.hid hlk
         have HM := Lib.hid hmk
         have HT := Lib.hid htk
         have HCNT := Lib.hid hcnt
         clear hlk hmk htk hcnt
         go_upto_region 22 with (go_at_call 92; refine (kids_r _ t.k HOK.out.1 HOK.out.2).mono ?_; rw [HL.out, HM.out, HT.out]; rintro e w2 ⟨rfl, rfl⟩)
         go_cut [92] from 120 (fun v92 wd => v92 = .bool (!t.cntOK) ∧ wd = w2)
         case first =>
          by_cases c1 : lk ≤ n
          ·
           have d4 : decide ((n : Int) < lk) = false := decide_eq_false (by omega)
           by_cases c2 : mk < 0
           · have d5 : decide (mk ≥ 0) = false := decide_eq_false (by omega)
             have d6 : decide (0 ≤ mk) = false := decide_eq_false (by omega)
             have HQ : Hid (t.cntOK = true) := Lib.hid (by rw [HCNT.out, decide_eq_true c1, decide_eq_true c2]; rfl)
             clear c1 c2
             go_wp2_with fail
             go_meet
             exact ⟨by rw [HQ.out]; rfl, rfl⟩
           ·
            have d5 : decide (mk ≥ 0) = true := decide_eq_true (by omega)
            have d6 : decide (0 ≤ mk) = true := decide_eq_true (by omega)
            by_cases c3 : (n : Int) ≤ mk
            · have d7 : decide ((n : Int) > mk) = false := decide_eq_false (by omega)
              have d8 : decide (mk < (n : Int)) = false := decide_eq_false (by omega)
              have HQ : Hid (t.cntOK = true) := Lib.hid (by rw [HCNT.out, decide_eq_true c1, decide_eq_true c3]; simp)
              clear c1 c2 c3
              go_wp2_with fail
              go_meet
              exact ⟨by rw [HQ.out]; rfl, rfl⟩
            · have d7 : decide ((n : Int) > mk) = true := decide_eq_true (by omega)
              have d8 : decide (mk < (n : Int)) = true := decide_eq_true (by omega)
              have HQ : Hid (t.cntOK = false) := Lib.hid (by rw [HCNT.out, decide_eq_true c1, decide_eq_false c2, decide_eq_false c3]; rfl)
              clear c1 c2 c3
              go_wp2_with fail
              go_meet
              exact ⟨by rw [HQ.out]; rfl, rfl⟩
          · have d4 : decide ((n : Int) < lk) = true := decide_eq_true (by omega)
            have HQ : Hid (t.cntOK = false) := Lib.hid (by rw [HCNT.out, decide_eq_false c1]; rfl)
            clear c1
            go_wp2_with fail
            go_meet
            exact ⟨by rw [HQ.out]; rfl, rfl⟩
         case rest =>
          obtain ⟨rfl, rfl⟩ := hcut
          obtain ⟨b, hb⟩ : ∃ b, t.cntOK = b := ⟨_, rfl⟩
          have HBC := Lib.hid hb
          rw [hb]
          clear hb
          cases b
          · go_wp2_with fail
            go_ret
            exact ⟨by rw [HE.out, HBC.out]; simp, below_on hb1 hS⟩
          ·
           have HE2 : Hid (t.may = T.mays tk t.ks) := Lib.hid (by rw [HE.out, HF.out, HNMO.out, HNSO.out, HNUO.out, HBC.out, HT.out]; simp)
           go_wp2_with fail
           go_loopg [9] (n + 1) (fun gk v9 wr => ∃ i : Nat, gk + i = n + 1 ∧ i ≤ n ∧ v9 = .int .i64 (i : Nat) ∧ Hid (T.mays tk (t.ks.take i) = true) ∧ Below W1.heap.size W1 wr)
           case atStart => exact ⟨0, by omega, Nat.zero_le _, rfl, Lib.hid rfl, hS⟩
           case round =>
            clear x0 x1 x2 x3 x4 x5 hS
            obtain ⟨i, hi, hin, rfl, HS, hS⟩ := hrel
            obtain ⟨x0, x1, x2, x3, x4, x5⟩ := (pt.below hS).six
            have hi2 : decide (i < n) = decide (i < n) := rfl
            by_cases hlt : i < n
            ·
             have hi3 : decide (i < n) = true := decide_eq_true hlt
             have hget := T.mays_get tk t.ks i (by rw [HN.out]; exact hlt)
             have hsn := T.mays_snoc tk (t.ks.take i) (t.ks.getD i t0)
             rw [← take_snoc _ t0 _ (by rw [HN.out]; exact hlt)] at hsn
             have HGET := Lib.hid hget
             have HSN := Lib.hid hsn
             clear hget hsn hi2
             obtain ⟨b, o, rfl, hk⟩ := HK.out (by omega)
             have hkd := hk i hlt
             obtain ⟨u, hu⟩ : ∃ u, t.ks.getD i t0 = u := ⟨_, rfl⟩
             rw [hu] at hkd
             have hub : u.bulk ≤ N := by rw [← hu]; exact T.kid_bulk HB.out (by rw [HN.out]; exact hlt)
             have HU := Lib.hid hu
             clear hk hu
             obtain ⟨B1, d1, B2, d2, B3, d3, h6, hkin⟩ := hkd.below (below_on hb1 hS)
             have HI := Lib.hid hkin
             clear hkin
             obtain ⟨e0, e1, e2, e3, e4, e5⟩ := h6
             have hi0 : (0 : Int) ≤ i := by omega
             have hi1 : (i : Int) < n := by omega
             obtain ⟨q, hq⟩ : ∃ q, termK u.k = q := ⟨_, rfl⟩
             obtain ⟨r, hr⟩ : ∃ r, u.may = r := ⟨_, rfl⟩
             have HQ := Lib.hid hq
             have HR := Lib.hid hr
             obtain ⟨s, hs⟩ : ∃ s, (q == tk) = s := ⟨_, rfl⟩
             have hs2 : (q != tk) = !s := by rw [← hs]; rfl
             have hbe : ((termK (t.ks.getD i t0).k == tk) && (t.ks.getD i t0).may) = (s && r) := by rw [HU.out, hq, hr, hs]
             have HBE := Lib.hid hbe
             clear hq hr hbe
             cases s <;> cases r
             all_goals
              simp only [Bool.not_true, Bool.not_false] at hs2
              go_wp2_with (first
               | (go_at_call 48; refine (term_r _ _).mono ?_; rw [HQ.out]; rintro e w2 ⟨rfl, rfl⟩)
               | (go_at_call 49; refine (ih u _ R _ hub (by omega) HI.out).mono ?_; rw [HR.out]; rintro e w2 ⟨rfl, hb2⟩; have hS2 := below_on hS hb2))
              first
                | (go_ret; exact ⟨by rw [HE2.out, HGET.out (by rw [HBE.out]; rfl)]; rfl, below_on hb1 hS2⟩)
                | (go_roundg (n - i)
                   case measure => omega
                   case rel => exact ⟨i + 1, by omega, by omega, by go_num, Lib.hid (by rw [HSN.out, HS.out, HBE.out]; rfl), hS2⟩)
            · have hi3 : decide (i < n) = false := decide_eq_false hlt
              obtain rfl : i = n := by omega
              have htk : t.ks.take i = t.ks := by rw [← HN.out, List.take_length]
              have hf := HS.out
              rw [htk] at hf
              have HFF := Lib.hid hf
              clear htk hf hi2
              go_wp2_with fail
              go_ret
              exact ⟨by rw [HE2.out, HFF.out]; rfl, below_on hb1 hS⟩
end
end Go.Proofs.YthiadenmljbdaaaGreatDoor

/-
  l: the parts YMade.
-/
import Derived.Test.YthiadenmljbdaaaGreatDoorB10l
import Derived.Deep.CutRange
import Derived.BigQuiet
namespace Go.Proofs.YthiadenmljbdaaaGreatDoor
section
open Go.RowKit
def T.mNm (t : T) : Bool := (nameK t.k == nameB t.nm) && (nameK t.k || t.nm.size == 0)
def T.mNs (t : T) : Bool := (namesK t.k == decide (0 < t.ns.length)) && namesB t.ns
def T.mNum (t : T) : Bool := !t.ng && ((numK t.k || bareB t.ng t.mg) && vld t.ng t.mg)
mutual
def T.made : Bool → T → Bool
 | f, .node k nm ns ng mg ks => okK k && ((fmK k == f) && ((decide (leastK k ≤ ks.length) && (decide (mostK k < 0) || decide ((ks.length : Int) ≤ mostK k))) && (((nameK k == nameB nm) && (nameK k || nm.size == 0)) && (((namesK k == decide (0 < ns.length)) && namesB ns) && ((!ng && ((numK k || bareB ng mg) && vld ng mg)) && T.mades (innerK k) ks)))))
def T.mades : Bool → List T → Bool
 | _, [] => true
 | b, t :: r => T.made b t && T.mades b r
end
theorem T.made_eq (f : Bool) (t : T) : T.made f t = (okK t.k && ((fmK t.k == f) && (t.cntOK && (t.mNm && (t.mNs && (t.mNum && T.mades (innerK t.k) t.ks)))))) := by cases t; rfl
theorem T.mades_snoc (b : Bool) : ∀ (l : List T) (t : T), T.mades b (l ++ [t]) = (T.mades b l && T.made b t)
 | [], t => by simp [T.mades]
 | u :: r, t => by simp [T.mades, T.mades_snoc b r t, Bool.and_assoc]
theorem T.mades_get (b : Bool) : ∀ (l : List T) (i : Nat), i < l.length → T.made b (l.getD i t0) = false → T.mades b l = false
 | [], i, h, _ => absurd h (by simp)
 | t :: r, 0, _, h => by
  have h' : T.made b t = false := by simpa using h
  rw [T.mades, h']; rfl
 | t :: r, i + 1, h, h2 => by
  have := T.mades_get b r i (by simpa using h) (by simpa using h2)
  rw [T.mades, this]; simp
theorem shaped_ok (w : World) (k : Int) (hok : okK k = true) {sa sb sc si sf : Bool} {lk mk : Int} (h1 : nameK k = sa) (h2 : namesK k = sb) (h3 : numK k = sc) (h4 : leastK k = lk) (h5 : mostK k = mk) (h6 : innerK k = si) (h7 : fmK k = sf) :
    Calls Tryz.prog 81 #[.int .i64 k] w fun e w' => e = .returned (.tuple #[.agg #[.bool sa, .bool sb, .bool sc, .int .i64 lk, .int .i64 mk, .bool si, .bool sf], .bool true]) ∧ Below w.heap.size w w' := by
  subst h1 h2 h3 h4 h5 h6 h7
  refine (shaped_x w k).mono ?_
  rintro e w2 ⟨h, _, hb⟩
  exact ⟨h hok, hb⟩
theorem shaped_no (w : World) (k : Int) (hok : okK k = false) :
    Calls Tryz.prog 81 #[.int .i64 k] w fun e w' => ∃ s0 s1 s2 s3 s4 s5 s6, e = .returned (.tuple #[.agg #[.bool s0, .bool s1, .bool s2, .int .i64 s3, .int .i64 s4, .bool s5, .bool s6], .bool false]) ∧ Below w.heap.size w w' := by
  refine (shaped_x w k).mono ?_
  rintro e w2 ⟨_, h, hb⟩
  obtain ⟨s0, s1, s2, s3, s4, s5, s6, e⟩ := h hok
  exact ⟨s0, s1, s2, s3, s4, s5, s6, e, hb⟩
theorem isname_l (w : World) (S : ByteArray) (hS : S.size ≤ 4611686018427387904) {r : Bool} (h : nameB S = r) : Calls Tryz.prog 82 #[.string S] w fun e w' => e = .returned (.bool r) ∧ w' = w := by
 subst h
 refine (isname_x w S hS).mono ?_
 rintro e w2 ⟨rfl, rfl⟩
 exact ⟨rfl, rfl⟩
section
variable {w : World} {b : Nat} {t : TypeId} {a0 a1 a2 a3 a4 a5 a6 : Value}
theorem Blk.seven (h : Blk w b t #[a0, a1, a2, a3, a4, a5, a6]) : w.cell? ⟨b, 0, none⟩ = some a0 ∧ w.cell? ⟨b, 1, none⟩ = some a1 ∧ w.cell? ⟨b, 2, none⟩ = some a2 ∧ w.cell? ⟨b, 3, none⟩ = some a3 ∧ w.cell? ⟨b, 4, none⟩ = some a4 ∧ w.cell? ⟨b, 5, none⟩ = some a5 ∧ w.cell? ⟨b, 6, none⟩ = some a6 :=
 ⟨h.cell _, h.cell _, h.cell _, h.cell _, h.cell _, h.cell _, h.cell _⟩
end
set_option maxRecDepth 100000 in
set_option maxHeartbeats 6400000 in
theorem made_t : ∀ (N : Nat) (t : T) (w : World) (R : Nat → Prop) (v : Value) (f : Bool), t.bulk ≤ N → N ≤ 1048576 → T.In w R t v →
    Calls Tryz.prog 46 #[v, .bool f] w fun e w' => e = .returned (.bool (T.made f t)) ∧ Below w.heap.size w w'
  | 0, t, _, _, _, _, hN, _, _ => by have := T.bulk_pos t; omega
  | N + 1, t, w, R, v, f, hN, hN2, h => by
   have ih := made_t N
   obtain ⟨A1, c1, A2, c2, A3, c3, rfl, hnames, hmag, hc3, hkids⟩ := h.open
   obtain ⟨n, hn⟩ : ∃ n, t.ks.length = n := ⟨_, rfl⟩
   obtain ⟨hl1, hl2, hl3, hl4, hlen⟩ := T.len_le hN
   rw [hn] at hkids hc3 hlen ⊢
   have HN := Lib.hid hn
   have HK := Lib.hid hkids
   have HB := Lib.hid hN
   have HNM := Lib.hid hnames
   have HMG := Lib.hid hmag
   clear hn hkids hN h hnames hmag
   go_enter Tryz.func46, Tryz.ntmps46
   go_upto_region 1 with (fail)
   obtain ⟨W1, hW1, pt, hb1⟩ := made_blk w #[.int .i64 t.k, .string t.nm, .slice A1 t.ns.length c1, .bool t.ng, .slice A2 t.mg.length c2, .slice A3 n c3] 28
   obtain ⟨Bt, hBt⟩ : ∃ b, b = w.heap.size := ⟨_, rfl⟩
   rw [← hW1, ← hBt]
   rw [← hBt] at pt
   clear hW1 hBt
   obtain ⟨x0, x1, x2, x3, x4, x5⟩ := pt.six
   have HE := Lib.hid (T.made_eq f t)
   obtain ⟨ok, hok⟩ : ∃ ok, okK t.k = ok := ⟨_, rfl⟩
   have HF := Lib.hid hok
   clear hok
   cases ok
   case false =>
    go_wp2_with (go_at_call 81; refine (shaped_no _ t.k HF.out).mono ?_; rintro e w2 ⟨s0, s1, s2, s3, s4, s5, s6, rfl, hb2⟩)
    go_ret
    exact ⟨by rw [HE.out, HF.out]; rfl, below_on (below_on hb1 hb2) (below_alloc1 _ _)⟩
   case true =>
    obtain ⟨sa, hsa⟩ : ∃ s, nameK t.k = s := ⟨_, rfl⟩
    obtain ⟨sb, hsb⟩ : ∃ s, namesK t.k = s := ⟨_, rfl⟩
    obtain ⟨sc, hsc⟩ : ∃ s, numK t.k = s := ⟨_, rfl⟩
    obtain ⟨lk, hlk⟩ : ∃ s, leastK t.k = s := ⟨_, rfl⟩
    obtain ⟨mk, hmk⟩ : ∃ s, mostK t.k = s := ⟨_, rfl⟩
    obtain ⟨si, hsi⟩ : ∃ s, innerK t.k = s := ⟨_, rfl⟩
    obtain ⟨sf, hsf⟩ : ∃ s, fmK t.k = s := ⟨_, rfl⟩
    have HA := Lib.hid hsa
    have HB2 := Lib.hid hsb
    have HC := Lib.hid hsc
    have HL := Lib.hid hlk
    have HM := Lib.hid hmk
    have HI2 := Lib.hid hsi
    have HFM := Lib.hid hsf
    clear hsa hsb hsc hlk hmk hsi hsf
    go_upto_region 2 with (go_at_call 81; refine (shaped_ok _ t.k HF.out HA.out HB2.out HC.out HL.out HM.out HI2.out HFM.out).mono ?_; rintro e w2 ⟨rfl, hb2⟩)
    obtain ⟨W2, hW2, ps, hb3⟩ := made_blk w2 #[.bool sa, .bool sb, .bool sc, .int .i64 lk, .int .i64 mk, .bool si, .bool sf] 116
    obtain ⟨Bs, hBs⟩ : ∃ b, b = w2.heap.size := ⟨_, rfl⟩
    rw [← hW2, ← hBs]
    rw [← hBs] at ps
    have hbx := below_on hb2 hb3
    have hb1 := below_on hb1 hbx
    have pt := pt.below hbx
    clear hW2 hBs hb3 hb2 hbx x0 x1 x2 x3 x4 x5
    obtain ⟨x0, x1, x2, x3, x4, x5⟩ := pt.six
    obtain ⟨y0, y1, y2, y3, y4, y5, y6⟩ := ps.seven
    have hcnt : t.cntOK = (decide (lk ≤ n) && (decide (mk < 0) || decide ((n : Int) ≤ mk))) := by unfold T.cntOK; rw [HL.out, HM.out, HN.out]
    have HCNT := Lib.hid hcnt
    clear hcnt
    obtain ⟨s, hs⟩ : ∃ s, (sf == f) = s := ⟨_, rfl⟩
    have HS0 : Hid ((fmK t.k == f) = s) := Lib.hid (by rw [HFM.out, hs])
    have HEC : Hid (T.made f t = ((s && t.cntOK) && (t.mNm && (t.mNs && (t.mNum && T.mades (innerK t.k) t.ks))))) := Lib.hid (by rw [HE.out, HF.out, HS0.out]; simp [Bool.and_assoc])
    cases s
    case false =>
     have e3 : (false != true) = true := rfl
     have e4 : (true != false) = true := rfl
     cases sf <;> cases f
     all_goals
      first
        | exact absurd hs (by decide)
        | (clear hs
           go_wp2_with fail
           go_ret
           exact ⟨by rw [HEC.out]; rfl, hb1⟩)
    case true =>
    have hsf : sf = f := by simpa using hs
    clear hs
    subst hsf
    go_cut [43] from 110 (fun v43 wd => v43 = .bool (!t.cntOK) ∧ wd = W2)
    case first =>
        by_cases c1 : lk ≤ n
        ·
         have d4 : decide ((n : Int) < lk) = false := decide_eq_false (by omega)
         by_cases c2 : mk < 0
         · have d5 : decide (mk ≥ 0) = false := decide_eq_false (by omega)
           have d6 : decide (0 ≤ mk) = false := decide_eq_false (by omega)
           have HQ : Hid (t.cntOK = true) := Lib.hid (by rw [HCNT.out, decide_eq_true c1, decide_eq_true c2]; rfl)
           clear c1 c2
           go_wp2_with fail
           go_meet
           exact ⟨by rw [HQ.out]; rfl, rfl⟩
         ·
          have d5 : decide (mk ≥ 0) = true := decide_eq_true (by omega)
          have d6 : decide (0 ≤ mk) = true := decide_eq_true (by omega)
          by_cases c3 : (n : Int) ≤ mk
          · have d7 : decide ((n : Int) > mk) = false := decide_eq_false (by omega)
            have d8 : decide (mk < (n : Int)) = false := decide_eq_false (by omega)
            have HQ : Hid (t.cntOK = true) := Lib.hid (by rw [HCNT.out, decide_eq_true c1, decide_eq_true c3]; simp)
            clear c1 c2 c3
            go_wp2_with fail
            go_meet
            exact ⟨by rw [HQ.out]; rfl, rfl⟩
          · have d7 : decide ((n : Int) > mk) = true := decide_eq_true (by omega)
            have d8 : decide (mk < (n : Int)) = true := decide_eq_true (by omega)
            have HQ : Hid (t.cntOK = false) := Lib.hid (by rw [HCNT.out, decide_eq_true c1, decide_eq_false c2, decide_eq_false c3]; rfl)
            clear c1 c2 c3
            go_wp2_with fail
            go_meet
            exact ⟨by rw [HQ.out]; rfl, rfl⟩
        · have d4 : decide ((n : Int) < lk) = true := decide_eq_true (by omega)
          have HQ : Hid (t.cntOK = false) := Lib.hid (by rw [HCNT.out, decide_eq_false c1]; rfl)
          clear c1
          go_wp2_with fail
          go_meet
          exact ⟨by rw [HQ.out]; rfl, rfl⟩
    case rest =>
     obtain ⟨rfl, rfl⟩ := hcut
     obtain ⟨q, hq⟩ : ∃ q, t.cntOK = q := ⟨_, rfl⟩
     have HQ := Lib.hid hq
     rw [hq]
     clear hq
     cases q
     · go_wp2_with fail
       go_ret
       exact ⟨by rw [HEC.out, HQ.out]; rfl, hb1⟩
     ·
      go_upto_region 4 with (fail)
      go_cut [59] from 110 (fun v59 wd => v59 = .bool (!t.mNm) ∧ Below wc.heap.size wc wd)
      case first =>
       obtain ⟨r, hr⟩ : ∃ r, nameB t.nm = r := ⟨_, rfl⟩
       have HMN : Hid (t.mNm = ((sa == r) && (sa || t.nm.size == 0))) := Lib.hid (by unfold T.mNm; rw [HA.out, hr])
       have HR := Lib.hid hr
       clear hr
       have e1 : (true != true) = false := rfl
       have e2 : (false != false) = false := rfl
       have e3 : (false != true) = true := rfl
       have e4 : (true != false) = true := rfl
       cases sa <;> cases r
       ·
        by_cases hz : t.nm.size = 0
        · obtain ⟨z1, z2⟩ := (nm_empty t.nm).1 hz
          have HQ2 : Hid (t.mNm = true) := Lib.hid (by rw [HMN.out, hz]; rfl)
          clear hz
          go_quiet ((go_at_call 82; refine Calls.quiet_of_same (isname_l _ t.nm (by omega) HR.out)))
          go_wp2_with fail
          go_meet
          exact ⟨by rw [HQ2.out]; rfl, below_drewN (Below.refl _ _) _⟩
        · obtain ⟨z1, z2⟩ := (nm_empty t.nm).2 hz
          have HQ2 : Hid (t.mNm = false) := Lib.hid (by rw [HMN.out]; simpa using hz)
          clear hz
          go_quiet ((go_at_call 82; refine Calls.quiet_of_same (isname_l _ t.nm (by omega) HR.out)))
          go_wp2_with fail
          go_meet
          exact ⟨by rw [HQ2.out]; rfl, below_drewN (Below.refl _ _) _⟩
       · have HQ2 : Hid (t.mNm = false) := Lib.hid (by rw [HMN.out]; rfl)
         go_quiet ((go_at_call 82; refine Calls.quiet_of_same (isname_l _ t.nm (by omega) HR.out)))
         go_wp2_with fail
         go_meet
         exact ⟨by rw [HQ2.out]; rfl, below_drewN (Below.refl _ _) _⟩
       · have HQ2 : Hid (t.mNm = false) := Lib.hid (by rw [HMN.out]; rfl)
         go_quiet ((go_at_call 82; refine Calls.quiet_of_same (isname_l _ t.nm (by omega) HR.out)))
         go_wp2_with fail
         go_meet
         exact ⟨by rw [HQ2.out]; rfl, below_drewN (Below.refl _ _) _⟩
       · have HQ2 : Hid (t.mNm = true) := Lib.hid (by rw [HMN.out]; rfl)
         go_quiet ((go_at_call 82; refine Calls.quiet_of_same (isname_l _ t.nm (by omega) HR.out)))
         go_wp2_with fail
         go_meet
         exact ⟨by rw [HQ2.out]; rfl, below_drewN (Below.refl _ _) _⟩
      case rest =>
       obtain ⟨rfl, hbz⟩ := hcut
       clear x0 x1 x2 x3 x4 x5 y0 y1 y2 y3 y4 y5 y6
       have hb1 := below_on hb1 hbz
       have pt := pt.below hbz
       have ps := ps.below hbz
       clear hbz
       obtain ⟨x0, x1, x2, x3, x4, x5⟩ := pt.six
       obtain ⟨y0, y1, y2, y3, y4, y5, y6⟩ := ps.seven
       obtain ⟨q, hq⟩ : ∃ q, t.mNm = q := ⟨_, rfl⟩
       have HQN := Lib.hid hq
       rw [hq]
       clear hq
       cases q
       · go_wp2_with fail
         go_ret
         exact ⟨by rw [HEC.out, HQN.out]; simp, hb1⟩
       ·
        go_upto_region 6 with (fail)
        go_cut [71] from 110 (fun v71 wd => v71 = .bool (!t.mNs) ∧ wd = wc)
        case first =>
         obtain ⟨r, hr⟩ : ∃ r, namesB t.ns = r := ⟨_, rfl⟩
         have HMN : Hid (t.mNs = ((sb == decide (0 < t.ns.length)) && r)) := Lib.hid (by unfold T.mNs; rw [HB2.out, hr])
         have HST := Lib.hid (HNM.out.below hb1)
         have HR := Lib.hid hr
         clear hr
         have e1 : (true != true) = false := rfl
         have e2 : (false != false) = false := rfl
         have e3 : (false != true) = true := rfl
         have e4 : (true != false) = true := rfl
         obtain ⟨p, hp⟩ : ∃ p, decide (0 < t.ns.length) = p := ⟨_, rfl⟩
         have hp2 : decide ((t.ns.length : Int) > 0) = p := by rw [← hp]; simp
         have HP := Lib.hid hp
         cases sb <;> cases p <;> cases r
         all_goals
          first
            | have HQ2 : Hid (t.mNs = false) := Lib.hid (by rw [HMN.out, HP.out]; rfl)
            | have HQ2 : Hid (t.mNs = true) := Lib.hid (by rw [HMN.out, HP.out]; rfl)
          go_wp2_with (go_at_call 83; refine (contains_names _ R _ _ _ HST.out (by omega)).mono ?_; rw [HR.out]; rintro e w2 ⟨rfl, rfl⟩)
          go_meet
          exact ⟨by rw [HQ2.out]; rfl, rfl⟩
        case rest =>
         obtain ⟨rfl, rfl⟩ := hcut
         obtain ⟨q, hq⟩ : ∃ q, t.mNs = q := ⟨_, rfl⟩
         have HQS := Lib.hid hq
         rw [hq]
         clear hq
         cases q
         · go_wp2_with fail
           go_ret
           exact ⟨by rw [HEC.out, HQS.out]; simp, hb1⟩
         ·
          go_upto_region 8 with (fail)
          go_cut [91] from 110 (fun v91 wd => v91 = .bool (!t.mNum) ∧ Below wc.heap.size wc wd)
          case first =>
           obtain ⟨ng, hng⟩ : ∃ r, t.ng = r := ⟨_, rfl⟩
           obtain ⟨r, hr⟩ : ∃ r, bareB t.ng t.mg = r := ⟨_, rfl⟩
           obtain ⟨u, hu⟩ : ∃ r, vld t.ng t.mg = r := ⟨_, rfl⟩
           have HMN : Hid (t.mNum = (!ng && ((sc || r) && u))) := Lib.hid (by unfold T.mNum; rw [HC.out, hr, hu, hng])
           have HMS := Lib.hid (HMG.out.below hb1)
           rw [hng] at x3 pt hr hu
           have HR := Lib.hid hr
           have HU := Lib.hid hu
           clear hr hu hng
           cases ng
           case true =>
            have HQ2 : Hid (t.mNum = false) := Lib.hid (by rw [HMN.out]; rfl)
            go_wp2_with fail
            go_meet
            exact ⟨by rw [HQ2.out]; rfl, Below.refl _ _⟩
           case false =>
            have hcase : ∀ w2, Below wc.heap.size wc w2 → Calls Tryz.prog 86 #[.agg #[.bool false, .slice A2 t.mg.length c2]] w2 fun e w' => e = .returned (.bool u) ∧ Below wc.heap.size wc w' := by
             intro w2 hb2
             refine (valid_i (K := 1048576) (s := false) (l := t.mg) ⟨A2, _, c2, rfl, trivial, (HMS.out.1).below hb2, by omega⟩ (by omega)).mono ?_
             rw [HU.out]
             rintro e w3 ⟨rfl, hb3⟩
             exact ⟨rfl, below_on hb2 hb3⟩
            cases sc <;> cases r <;> cases u
            all_goals
             first
               | have HQ2 : Hid (t.mNum = false) := Lib.hid (by rw [HMN.out]; rfl)
               | have HQ2 : Hid (t.mNum = true) := Lib.hid (by rw [HMN.out]; rfl)
             go_wp2_with (first
              | (go_at_call 85; refine (bare_x _ false _ _ _).mono ?_; rw [HR.out]; rintro e w2 ⟨rfl, hb2⟩; obtain ⟨-, -, -, z3, z4, -⟩ := (pt.below hb2).six)
              | (go_at_call 86; refine (hcase _ (by first | exact hb2 | exact Below.refl _ _)).mono ?_; rintro e w3 ⟨rfl, hb3⟩))
             go_meet
             exact ⟨by rw [HQ2.out]; rfl, by first | exact hb3 | exact hb2⟩
          case rest =>
           obtain ⟨rfl, hbz⟩ := hcut
           clear x0 x1 x2 x3 x4 x5 y0 y1 y2 y3 y4 y5 y6
           have hb1 := below_on hb1 hbz
           have pt := pt.below hbz
           have ps := ps.below hbz
           clear hbz
           obtain ⟨x0, x1, x2, x3, x4, x5⟩ := pt.six
           obtain ⟨y0, y1, y2, y3, y4, y5, y6⟩ := ps.seven
           obtain ⟨q, hq⟩ : ∃ q, t.mNum = q := ⟨_, rfl⟩
           have HQU := Lib.hid hq
           rw [hq]
           clear hq
           cases q
           · go_wp2_with fail
             go_ret
             exact ⟨by rw [HEC.out, HQU.out]; simp, hb1⟩
           ·
            have HE2 : Hid (T.made sf t = T.mades si t.ks) := Lib.hid (by rw [HEC.out, HQ.out, HQN.out, HQS.out, HQU.out, HI2.out]; simp)
            obtain ⟨w0, hw0⟩ : ∃ w0, w0 = wc := ⟨_, rfl⟩
            rw [← hw0] at pt ps hb1 x0 x1 x2 x3 x4 x5 y0 y1 y2 y3 y4 y5 y6 ⊢
            clear hw0
            go_wp2_with fail
            go_loopg [95] (n + 1) (fun gk v95 wr => ∃ i : Nat, gk + i = n + 1 ∧ i ≤ n ∧ v95 = .int .i64 (i : Nat) ∧ Hid (T.mades si (t.ks.take i) = true) ∧ Below w0.heap.size w0 wr)
            case atStart => exact ⟨0, by omega, Nat.zero_le _, rfl, Lib.hid rfl, Below.refl _ _⟩
            case round =>
             clear x0 x1 x2 x3 x4 x5 y0 y1 y2 y3 y4 y5 y6
             obtain ⟨i, hi, hin, rfl, HS, hS⟩ := hrel
             obtain ⟨y0, y1, y2, y3, y4, y5, y6⟩ := (ps.below hS).seven
             by_cases hlt : i < n
             ·
              have hi3 : decide (i < n) = true := decide_eq_true hlt
              have hget := T.mades_get si t.ks i (by rw [HN.out]; exact hlt)
              have hsn := T.mades_snoc si (t.ks.take i) (t.ks.getD i t0)
              rw [← take_snoc _ t0 _ (by rw [HN.out]; exact hlt)] at hsn
              have HGET := Lib.hid hget
              have HSN := Lib.hid hsn
              clear hget hsn
              obtain ⟨b, o, rfl, hk⟩ := HK.out (by omega)
              have hkd := hk i hlt
              obtain ⟨u, hu⟩ : ∃ u, t.ks.getD i t0 = u := ⟨_, rfl⟩
              rw [hu] at hkd
              have hub : u.bulk ≤ N := by rw [← hu]; exact T.kid_bulk HB.out (by rw [HN.out]; exact hlt)
              have HU := Lib.hid hu
              clear hk hu
              obtain ⟨B1, d1, B2, d2, B3, d3, h6, hkin⟩ := hkd.below (below_on hb1 hS)
              have hal := below_alloc1 wr (.cells #[.int .i64 u.k, .string u.nm, .slice B1 u.ns.length d1, .bool u.ng, .slice B2 u.mg.length d2, .slice B3 u.ks.length d3] 28)
              have HI := Lib.hid (hkin.below hal)
              have hbw2 := below_on hS hal
              clear hkin hal y0 y1 y2 y3 y4 y5 y6
              obtain ⟨y0, y1, y2, y3, y4, y5, y6⟩ := (ps.below hbw2).seven
              obtain ⟨e0, e1, e2, e3, e4, e5⟩ := h6
              have hi0 : (0 : Int) ≤ i := by omega
              have hi1 : (i : Int) < n := by omega
              obtain ⟨r, hr⟩ : ∃ r, T.made si u = r := ⟨_, rfl⟩
              have HR := Lib.hid hr
              have hbe : T.made si (t.ks.getD i t0) = r := by rw [HU.out, hr]
              have HBE := Lib.hid hbe
              clear hr hbe
              cases r
              all_goals
               go_wp2_with (go_at_call 46; refine (ih u _ R _ si hub (by omega) HI.out).mono ?_; rw [HR.out]; rintro e w2 ⟨rfl, hb2⟩; have hS2 := below_on hbw2 hb2)
               first
                 | (go_ret; exact ⟨by rw [HE2.out, HGET.out (by rw [HBE.out])]; rfl, below_on hb1 hS2⟩)
                 | (go_roundg (n - i)
                    case measure => omega
                    case rel => exact ⟨i + 1, by omega, by omega, by go_num, Lib.hid (by rw [HSN.out, HS.out, HBE.out]; rfl), hS2⟩)
             · have hi3 : decide (i < n) = false := decide_eq_false hlt
               obtain rfl : i = n := by omega
               have htk : t.ks.take i = t.ks := by rw [← HN.out, List.take_length]
               have hf := HS.out
               rw [htk] at hf
               have HFF := Lib.hid hf
               clear htk hf
               go_wp2_with fail
               go_ret
               exact ⟨by rw [HE2.out, HFF.out]; rfl, below_on hb1 hS⟩
end
end Go.Proofs.YthiadenmljbdaaaGreatDoor

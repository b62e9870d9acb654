/-
  riddleref04.Check: contract; it says what the program's Check says.
-/
import Derived.Test.YtmncamnlmpajbaaSCheck
namespace Go.Proofs.Ytmncamnlmpajbaa
open Go.RowKit

theorem name_empty {s : ByteArray} (h : s.size = 0) : nameB s = false := by
  have e : s.data.toList = [] := List.eq_nil_of_length_eq_zero (by rw [size_list]; exact h)
  unfold nameB
  rw [e]
  rfl
theorem kinds_fm {k : Int} (h : okK k = true) (f : Bool) : (fmK k == f) = (termK k == !f) := by
  unfold okK at h
  simp only [Bool.and_eq_true, decide_eq_true_eq] at h
  unfold fmK termK
  by_cases h6 : k ≤ 6
  · rw [decide_eq_false (show ¬ 7 ≤ k by omega), decide_eq_true h.1, decide_eq_true h6]
    cases f <;> rfl
  · rw [decide_eq_true (show 7 ≤ k by omega), decide_eq_true h.1, decide_eq_true h.2, decide_eq_false h6]
    cases f <;> rfl
theorem kinds_in {k : Int} (h : okK k = true) {n : Nat} (hn : 0 < n) (hc : (decide (mostK k < 0) || decide ((n : Int) ≤ mostK k)) = true) : termsK k = !innerK k := by
  unfold okK at h
  simp only [Bool.and_eq_true, decide_eq_true_eq] at h
  rcases kinds h.1 h.2 with rfl | rfl | rfl | rfl | rfl | rfl | rfl | rfl | rfl | rfl | rfl | rfl | rfl | rfl | rfl | rfl | rfl | rfl | rfl | rfl | rfl | rfl
  all_goals first
    | rfl
    | (exfalso
       simp [mostK] at hc
       omega)
theorem num_law {ng : Bool} {mg : List Nat} (hl : N.Lim mg) (nk : Bool) : (!ng && ((nk || bareB ng mg) && vld ng mg)) = (if nk = true then standsB ng mg else bareB ng mg) := by
  cases ng with
  | true => cases nk <;> simp [bareB, standsB]
  | false =>
    by_cases h0 : mg = []
    · subst h0
      have : vld false [] = true := by decide
      cases nk <;> simp [bareB, standsB, this]
    · have hv := vld_last (s := false) hl h0
      have hlen : mg.length ≠ 0 := fun e => h0 (List.eq_nil_of_length_eq_zero e)
      cases nk
      · simp [bareB, hlen]
      · rw [hv]
        by_cases hd : N.dg mg (mg.length - 1) = 0
        · simp [standsB, hlen, hd]
        · simp [standsB, hd]
mutual
theorem T.In.made_may {w : World} {R : Nat → Prop} : ∀ {t : T} {v : Value}, T.In w R t v → ∀ f : Bool, T.made f t = ((termK t.k == !f) && t.may)
  | .node k nm ns ng mg ks, v, h, f => by
    simp only [T.In] at h
    obtain ⟨A1, c1, A2, c2, A3, c3, _, _, h2, _, h4⟩ := h
    simp only [T.made, T.may, T.k]
    cases hok : okK k with
    | false => simp
    | true =>
      rw [kinds_fm hok f]
      have e1 : ((nameK k == nameB nm) && (nameK k || nm.size == 0)) = (if k == 2 then nameB nm else nm.size == 0) := by
        unfold nameK
        cases hk : (k == 2) with
        | true => cases nameB nm <;> simp
        | false =>
          by_cases hz : nm.size = 0
          · rw [name_empty hz, hz]; rfl
          · simp [hz]
      have e2 : ((namesK k == decide (0 < ns.length)) && namesB ns) = (if namesK k then namesB ns && decide (0 < ns.length) else ns.length == 0) := by
        cases namesK k with
        | true => cases ns <;> cases namesB _ <;> simp
        | false => cases ns <;> simp [namesB]
      have e3 := num_law (ng := ng) h2.1.lim (numK k)
      rw [e1, e2, e3]
      cases hc : (decide (leastK k ≤ (ks.length : Int)) && (decide (mostK k < 0) || decide ((ks.length : Int) ≤ mostK k))) with
      | false => simp
      | true =>
        have e4 : T.mades (innerK k) ks = T.mays (termsK k) ks := by
          by_cases h0 : 0 < ks.length
          · obtain ⟨b, o, _, _, hi⟩ := h4 h0
            rw [T.Ins.made_may hi, kinds_in hok h0 (by simp only [Bool.and_eq_true] at hc; exact hc.2)]
          · have : ks = [] := List.eq_nil_of_length_eq_zero (by omega)
            subst this
            rfl
        rw [e4]
        simp
theorem T.Ins.made_may {w : World} {R : Nat → Prop} {b : Nat} : ∀ {o : Nat} {l : List T}, T.Ins w R b o l → ∀ {f : Bool}, T.mades f l = T.mays (!f) l
  | _, [], _, _ => rfl
  | o, t :: r, h, f => by
    simp only [T.Ins] at h
    obtain ⟨⟨v0, v1, v2, v3, v4, v5, _, ht⟩, hr⟩ := h
    simp only [T.mades, T.mays]
    rw [T.In.made_may ht f, T.Ins.made_may hr]
end
set_option maxRecDepth 100000 in
set_option maxHeartbeats 1600000 in
theorem rcheck_t (t : T) (w : World) (R : Nat → Prop) (v : Value) (hN : t.bulk ≤ 1048576) (h : T.In w R t v) :
    Calls Try.prog 41 #[v] w fun e w' => e = .returned (.int .i64 t.chk) ∧ Below w.heap.size w w' := by
  have hmade := h.made_may true
  obtain ⟨A1, c1, A2, c2, A3, c3, rfl, _⟩ := h.open
  obtain ⟨n, hn⟩ : ∃ n, t.ks.length = n := ⟨_, rfl⟩
  rw [hn] at h ⊢
  have hal := below_alloc1 w (.cells #[.int .i64 t.k, .string t.nm, .slice A1 t.ns.length c1, .bool t.ng, .slice A2 t.mg.length c2, .slice A3 n c3] 35)
  have HI := Lib.hid (h.below hal)
  have pt := Blk.new w 35 #[.int .i64 t.k, .string t.nm, .slice A1 t.ns.length c1, .bool t.ng, .slice A2 t.mg.length c2, .slice A3 n c3]
  have HAL := Lib.hid hal
  have hd := t.depth_le
  obtain ⟨x0, x1, x2, x3, x4, x5⟩ := pt.six
  clear hn h hal
  obtain ⟨m, hm⟩ : ∃ m, t.may = m := ⟨_, rfl⟩
  obtain ⟨q, hq⟩ : ∃ q, termK t.k = q := ⟨_, rfl⟩
  obtain ⟨z, hz⟩ : ∃ z, t.none = z := ⟨_, rfl⟩
  rw [hm, hq] at hmade
  have HCK : Hid (t.chk = if T.made true t = true then (if z = true then 11 else if 60 < t.depth then 43 else 0) else 1) := Lib.hid (by unfold T.chk; rw [hz])
  obtain ⟨d, hdd⟩ : ∃ d, t.depth = d := ⟨_, rfl⟩
  rw [hdd] at HCK hd
  rw [hmade] at HCK
  have HM := Lib.hid hm
  have HQ := Lib.hid hq
  have HZ := Lib.hid hz
  have HD := Lib.hid hdd
  have hT := Below.refl (w.alloc (.cells #[.int .i64 t.k, .string t.nm, .slice A1 t.ns.length c1, .bool t.ng, .slice A2 t.mg.length c2, .slice A3 n c3] 35)).heap.size (w.alloc (.cells #[.int .i64 t.k, .string t.nm, .slice A1 t.ns.length c1, .bool t.ng, .slice A2 t.mg.length c2, .slice A3 n c3] 35))
  clear hm hz hdd hq hmade
  by_cases h60 : 60 < d
  all_goals
    first
      | have d1 : decide (60 < d) = true := decide_eq_true (by omega)
      | have d1 : decide (60 < d) = false := decide_eq_false (by omega)
    have d2 : decide ((d : Int) > 60) = decide (60 < d) := by rw [decide_eq_decide]; omega
    rw [d1] at d2
    have H6 := Lib.hid h60
    clear h60 hT
    cases q <;> cases m <;> cases z
    all_goals
      go_enter Try.func41, Try.ntmps41
      go_wp2_with (first
        | (go_at_call 60; refine (term_r _ _).mono ?_; rw [HQ.out]; rintro e w1 ⟨rfl, rfl⟩)
        | (go_at_call 61; refine (may_t 1048576 t _ R _ hN (by omega) HI.out).mono ?_; rw [HM.out]; rintro e w2 ⟨rfl, hb2⟩; obtain ⟨x0, x1, x2, x3, x4, x5⟩ := (pt.below hb2).six; have HI2 := Lib.hid (HI.out.below hb2))
        | (go_at_call 62; refine (rnone_t 1048576 t _ R _ hN (by omega) HI2.out).mono ?_; rw [HZ.out]; rintro e w3 ⟨rfl, hb3⟩; obtain ⟨y0, y1, y2, y3, y4, y5⟩ := (pt.below (below_on hb2 hb3)).six; have HI3 := Lib.hid (HI2.out.below hb3))
        | (go_at_call 63; refine (rdepth_t 1048576 t _ R _ hN (by omega) HI3.out).mono ?_; rw [HD.out]; rintro e w4 ⟨rfl, hb4⟩))
      go_ret
      exact ⟨by rw [HCK.out]; have := H6.out; simp [this]; try rfl, by first | exact below_on (below_on (below_on HAL.out hb2) hb3) hb4 | exact below_on (below_on HAL.out hb2) hb3 | exact below_on HAL.out hb2⟩
end Go.Proofs.Ytmncamnlmpajbaa

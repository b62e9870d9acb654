/-
  s: the parts PWf YCheck PWf2 of the proof.
-/
import Derived.Test.YthiadenmljbdaaaGreatDoorB10s
import Derived.Test.YthiadenmljbdaaaGreatDoorB25s
import Derived.Deep.CutRange
section
namespace Go.Proofs.YthiadenmljbdaaaGreatDoor
namespace P
mutual
def lims : T → Prop
  | .node _ _ _ _ mg ks => N.Lim mg ∧ limss ks
def limss : List T → Prop
  | [] => True
  | t :: r => lims t ∧ limss r
end
theorem nok_vld {m : List Nat} {s : Bool} (hl : N.Lim m) (h : vld s m = true) : NOK m := by
  unfold vld at h
  simp only [Bool.and_eq_true, decide_eq_true_eq] at h
  exact ⟨hl, N.nv_inj h.2 (N.lim_ofN _) hl (N.nv_ofN _)⟩
theorem wf_node {b : Bool} {k : Int} {nm : ByteArray} {ns : List ByteArray} {ng : Bool} {mg : List Nat} {ks : List T} (hok : okK k = true) (hf : fmK k = b)
    (hc1 : leastK k ≤ ks.length) (hc2 : mostK k < 0 ∨ (ks.length : Int) ≤ mostK k) (hn1 : nameK k = nameB nm) (hn2 : nameK k = false → nm = ⟨#[]⟩)
    (hs1 : namesK k = decide (0 < ns.length)) (hs2 : namesB ns = true) (hng : ng = false) (hm1 : numK k = false → mg = []) (hm2 : NOK mg) (hz : k = 15 → mg ≠ [])
    (hks : ∀ u ∈ ks, Wf (innerK k) u) : Wf b (.node k nm ns ng mg ks) := by
  have L0 : mostK k = 0 → ks = [] := fun h => by
    have : ks.length = 0 := by omega
    exact List.length_eq_zero_iff.1 this
  have L1 : leastK k = 1 → mostK k = 1 → ∃ t, ks = [t] := fun h h' => List.length_eq_one_iff.1 (by omega)
  have L2 : leastK k = 2 → mostK k = 2 → ∃ t u, ks = [t, u] := fun h h' => by
    have hl : ks.length = 2 := by omega
    match ks, hl with
    | [a, b], _ => exact ⟨a, b, rfl⟩
  have L3 : leastK k = 2 → ∃ t u r, ks = t :: u :: r := fun h => by
    match ks, hc1 with
    | [], hc1 => simp at hc1; omega
    | [a], hc1 => simp at hc1; omega
    | a :: b :: r, _ => exact ⟨a, b, r, rfl⟩
  have S0 : namesK k = false → ns = [] := fun h => by
    rw [h] at hs1
    have : ¬ 0 < ns.length := of_decide_eq_false hs1.symm
    exact List.length_eq_zero_iff.1 (by omega)
  have S1 : namesK k = true → ∃ s r, ns = s :: r := fun h => by
    rw [h] at hs1
    have : 0 < ns.length := of_decide_eq_true hs1.symm
    cases ns with
    | nil => exact absurd this (by simp)
    | cons s r => exact ⟨s, r, rfl⟩
  clear hc1 hc2 hs1
  subst hng hf
  unfold okK at hok
  simp only [Bool.and_eq_true, decide_eq_true_eq] at hok
  have hk : k = 1 ∨ k = 2 ∨ k = 3 ∨ k = 4 ∨ k = 5 ∨ k = 6 ∨ k = 7 ∨ k = 8 ∨ (9 ≤ k ∧ k ≤ 14) ∨ k = 15 ∨ k = 16 ∨ k = 17 ∨ k = 18 ∨ k = 19 ∨ k = 20 ∨ k = 21 ∨ k = 22 := by omega
  clear hok
  rcases hk with rfl | rfl | rfl | rfl | rfl | rfl | rfl | rfl | hk | rfl | rfl | rfl | rfl | rfl | rfl | rfl | rfl
  · obtain rfl := hn2 rfl; obtain rfl := S0 rfl; obtain rfl := L0 rfl
    exact .num mg hm2
  · obtain rfl := hm1 rfl; obtain rfl := S0 rfl; obtain rfl := L0 rfl
    exact .var nm hn1.symm
  · obtain rfl := hn2 rfl; obtain rfl := S0 rfl; obtain rfl := hm1 rfl; obtain ⟨t, rfl⟩ := L1 rfl rfl
    exact .neg t (hks t (by simp))
  · obtain rfl := hn2 rfl; obtain rfl := S0 rfl; obtain rfl := hm1 rfl; obtain ⟨t, u, rfl⟩ := L2 rfl rfl
    exact .add t u (hks t (by simp)) (hks u (by simp))
  · obtain rfl := hn2 rfl; obtain rfl := S0 rfl; obtain rfl := hm1 rfl; obtain ⟨t, u, rfl⟩ := L2 rfl rfl
    exact .sub t u (hks t (by simp)) (hks u (by simp))
  · obtain rfl := hn2 rfl; obtain rfl := S0 rfl; obtain ⟨t, rfl⟩ := L1 rfl rfl
    exact .mul mg hm2 t (hks t (by simp))
  · obtain rfl := hn2 rfl; obtain rfl := S0 rfl; obtain rfl := hm1 rfl; obtain rfl := L0 rfl
    exact .tt
  · obtain rfl := hn2 rfl; obtain rfl := S0 rfl; obtain rfl := hm1 rfl; obtain rfl := L0 rfl
    exact .ff
  · have h6 : k = 9 ∨ k = 10 ∨ k = 11 ∨ k = 12 ∨ k = 13 ∨ k = 14 := by omega
    rcases h6 with rfl | rfl | rfl | rfl | rfl | rfl
    all_goals
      obtain rfl := hn2 rfl; obtain rfl := S0 rfl; obtain rfl := hm1 rfl; obtain ⟨t, u, rfl⟩ := L2 rfl rfl
      exact .cmp _ hk t u (hks t (by simp)) (hks u (by simp))
  · obtain rfl := hn2 rfl; obtain rfl := S0 rfl; obtain ⟨t, rfl⟩ := L1 rfl rfl
    exact .div mg hm2 (hz rfl) t (hks t (by simp))
  · obtain rfl := hn2 rfl; obtain rfl := S0 rfl; obtain rfl := hm1 rfl; obtain ⟨t, rfl⟩ := L1 rfl rfl
    exact .not t (hks t (by simp))
  · obtain rfl := hn2 rfl; obtain rfl := S0 rfl; obtain rfl := hm1 rfl; obtain ⟨t, u, r, rfl⟩ := L3 rfl
    exact .and t u r (hks t (by simp)) (hks u (by simp)) (fun x hx => hks x (by simp [hx]))
  · obtain rfl := hn2 rfl; obtain rfl := S0 rfl; obtain rfl := hm1 rfl; obtain ⟨t, u, r, rfl⟩ := L3 rfl
    exact .or t u r (hks t (by simp)) (hks u (by simp)) (fun x hx => hks x (by simp [hx]))
  · obtain rfl := hn2 rfl; obtain rfl := S0 rfl; obtain rfl := hm1 rfl; obtain ⟨t, u, rfl⟩ := L2 rfl rfl
    exact .imp t u (hks t (by simp)) (hks u (by simp))
  · obtain rfl := hn2 rfl; obtain rfl := S0 rfl; obtain rfl := hm1 rfl; obtain ⟨t, u, rfl⟩ := L2 rfl rfl
    exact .iff t u (hks t (by simp)) (hks u (by simp))
  · obtain rfl := hn2 rfl; obtain ⟨s, r, rfl⟩ := S1 rfl; obtain rfl := hm1 rfl; obtain ⟨t, rfl⟩ := L1 rfl rfl
    have h2 : nameB s = true ∧ ∀ a ∈ r, nameB a = true := by simpa [namesB] using hs2
    exact .some s r h2.1 h2.2 t (hks t (by simp))
  · obtain rfl := hn2 rfl; obtain ⟨s, r, rfl⟩ := S1 rfl; obtain rfl := hm1 rfl; obtain ⟨t, rfl⟩ := L1 rfl rfl
    have h2 : nameB s = true ∧ ∀ a ∈ r, nameB a = true := by simpa [namesB] using hs2
    exact .all s r h2.1 h2.2 t (hks t (by simp))
theorem ba_nil {s : ByteArray} (h : s.size = 0) : s = ⟨#[]⟩ := by
  cases s with
  | mk d =>
    have : d = #[] := by simpa [ByteArray.size] using h
    rw [this]
mutual
theorem wf_made : ∀ (b : Bool) (t : T), lims t → T.made b t = true → t.none = false → Wf b t
  | b, .node k nm ns ng mg ks, hl, hm, hn => by
    have hk := fun a c d => wf_mades (innerK k) ks a c d
    rw [lims] at hl
    rw [T.made] at hm
    rw [T.none] at hn
    simp only [Bool.and_eq_true, Bool.or_eq_true, beq_iff_eq, decide_eq_true_eq, Bool.not_eq_true'] at hm
    simp only [Bool.or_eq_false_iff] at hn
    obtain ⟨h1, h2, ⟨h3, h4⟩, ⟨h5, h6⟩, ⟨h7, h8⟩, ⟨h9, h10, h11⟩, h12⟩ := hm
    refine wf_node h1 h2 h3 h4 h5 (fun h => ?_) h7 h8 h9 (fun h => ?_) (nok_vld hl.1 h11) (fun h e => ?_) (hk hl.2 h12 hn.2)
    · rcases h6 with h6 | h6
      · rw [h] at h6; cases h6
      · exact ba_nil h6
    · rcases h10 with h10 | h10
      · rw [h] at h10; cases h10
      · unfold bareB at h10
        simp only [Bool.and_eq_true, beq_iff_eq] at h10
        exact List.length_eq_zero_iff.1 h10.2
    · have := hn.1
      subst e h h9
      exact absurd this (by decide)
theorem wf_mades : ∀ (b : Bool) (ks : List T), limss ks → T.mades b ks = true → T.nones ks = false → ∀ u ∈ ks, Wf b u
  | _, [], _, _, _ => fun u hu => by cases hu
  | b, t :: r, hl, hm, hn => fun u hu => by
    have h1 := fun a c d => wf_made b t a c d
    have h2 := fun a c d => wf_mades b r a c d
    rw [limss] at hl
    rw [T.mades, Bool.and_eq_true] at hm
    rw [T.nones, Bool.or_eq_false_iff] at hn
    rcases List.mem_cons.1 hu with rfl | hu
    · exact h1 hl.1 hm.1 hn.1
    · exact h2 hl.2 hm.2 hn.2 u hu
end
end P
end Go.Proofs.YthiadenmljbdaaaGreatDoor
end
section
namespace Go.Proofs.YthiadenmljbdaaaGreatDoor
open Go.RowKit
def T.chk (t : T) : Int := if T.made true t = true then (if t.none = true then 11 else if 60 < t.depth then 43 else 0) else 1
set_option maxRecDepth 100000 in
set_option maxHeartbeats 1600000 in
theorem check_t (t : T) (w : World) (R : Nat → Prop) (v : Value) (hN : t.bulk ≤ 1048576) (h : T.In w R t v) :
    Calls Tryz.prog 19 #[v] w fun e w' => e = .returned (.int .i64 t.chk) ∧ Below w.heap.size w w' := by
  obtain ⟨A1, c1, A2, c2, A3, c3, rfl, _⟩ := h.open
  obtain ⟨n, hn⟩ : ∃ n, t.ks.length = n := ⟨_, rfl⟩
  rw [hn] at h ⊢
  have hal := below_alloc1 w (.cells #[.int .i64 t.k, .string t.nm, .slice A1 t.ns.length c1, .bool t.ng, .slice A2 t.mg.length c2, .slice A3 n c3] 28)
  have HI := Lib.hid (h.below hal)
  have pt := Blk.new w 28 #[.int .i64 t.k, .string t.nm, .slice A1 t.ns.length c1, .bool t.ng, .slice A2 t.mg.length c2, .slice A3 n c3]
  have HAL := Lib.hid hal
  have hd := t.depth_le
  clear hn h hal
  obtain ⟨m, hm⟩ : ∃ m, T.made true t = m := ⟨_, rfl⟩
  obtain ⟨z, hz⟩ : ∃ z, t.none = z := ⟨_, rfl⟩
  have HCK : Hid (t.chk = if m = true then (if z = true then 11 else if 60 < t.depth then 43 else 0) else 1) := Lib.hid (by unfold T.chk; rw [hm, hz])
  obtain ⟨d, hdd⟩ : ∃ d, t.depth = d := ⟨_, rfl⟩
  rw [hdd] at HCK hd
  have HM := Lib.hid hm
  have HZ := Lib.hid hz
  have HD := Lib.hid hdd
  clear hm hz hdd
  cases m
  · go_enter Tryz.func19, Tryz.ntmps19
    go_wp2_with (go_at_call 46; refine (made_t 1048576 t _ R _ true hN (by omega) HI.out).mono ?_; rw [HM.out]; rintro e w2 ⟨rfl, hb2⟩)
    go_ret
    exact ⟨by rw [HCK.out]; rfl, below_on HAL.out hb2⟩
  · cases z
    case true =>
      go_enter Tryz.func19, Tryz.ntmps19
      go_wp2_with (first
        | (go_at_call 46; refine (made_t 1048576 t _ R _ true hN (by omega) HI.out).mono ?_; rw [HM.out]; rintro e w2 ⟨rfl, hb2⟩; obtain ⟨x0, x1, x2, x3, x4, x5⟩ := (pt.below hb2).six; have HI2 := Lib.hid (HI.out.below hb2))
        | (go_at_call 47; refine (none_t 1048576 t _ R _ hN (by omega) HI2.out).mono ?_; rw [HZ.out]; rintro e w3 ⟨rfl, hb3⟩))
      go_ret
      exact ⟨by rw [HCK.out]; rfl, below_on (below_on HAL.out hb2) hb3⟩
    case false =>
      by_cases h60 : 60 < d
      all_goals
        first
          | have d1 : decide (60 < d) = true := decide_eq_true (by omega)
          | have d1 : decide (60 < d) = false := decide_eq_false (by omega)
        have HC2 := Lib.hid HCK.out
        have d2 : decide ((d : Int) > 60) = decide (60 < d) := by rw [decide_eq_decide]; omega
        rw [d1] at d2
        have H6 := Lib.hid h60
        clear h60
        go_enter Tryz.func19, Tryz.ntmps19
        go_wp2_with (first
          | (go_at_call 46; refine (made_t 1048576 t _ R _ true hN (by omega) HI.out).mono ?_; rw [HM.out]; rintro e w2 ⟨rfl, hb2⟩; obtain ⟨x0, x1, x2, x3, x4, x5⟩ := (pt.below hb2).six; have HI2 := Lib.hid (HI.out.below hb2))
          | (go_at_call 47; refine (none_t 1048576 t _ R _ hN (by omega) HI2.out).mono ?_; rw [HZ.out]; rintro e w3 ⟨rfl, hb3⟩; obtain ⟨y0, y1, y2, y3, y4, y5⟩ := (pt.below (below_on hb2 hb3)).six; have HI3 := Lib.hid (HI2.out.below hb3))
          | (go_at_call 40; refine (depth_t 1048576 t _ R _ hN (by omega) HI3.out).mono ?_; rw [HD.out]; rintro e w4 ⟨rfl, hb4⟩))
        go_ret
        exact ⟨by rw [HCK.out]; have := H6.out; simp [this]; try rfl, below_on (below_on (below_on HAL.out hb2) hb3) hb4⟩
end Go.Proofs.YthiadenmljbdaaaGreatDoor
end
section
namespace Go.Proofs.YthiadenmljbdaaaGreatDoor
namespace P
mutual
theorem lims_in {w : World} {R : Nat → Prop} : ∀ (t : T) (v : Value), T.In w R t v → lims t
  | .node k nm ns ng mg ks, v, h => by
    have hr := fun b o => lims_ins (w := w) (R := R) b ks o
    rw [T.In] at h
    obtain ⟨A1, c1, A2, c2, A3, c3, _, _, hm, _, hk⟩ := h
    rw [lims]
    refine ⟨hm.1.lim, ?_⟩
    by_cases h0 : 0 < ks.length
    · obtain ⟨b, o, _, _, hi⟩ := hk h0
      exact hr b o hi
    · have : ks = [] := List.length_eq_zero_iff.1 (by omega)
      subst this
      rw [limss]; trivial
theorem lims_ins {w : World} {R : Nat → Prop} (b : Nat) : ∀ (ks : List T) (o : Nat), T.Ins w R b o ks → limss ks
  | [], _, _ => by rw [limss]; trivial
  | t :: r, o, h => by
    have h1 := fun v => lims_in (w := w) (R := R) t v
    have h2 := fun o => lims_ins (w := w) (R := R) b r o
    rw [T.Ins] at h
    obtain ⟨⟨v0, v1, v2, v3, v4, v5, _, hi⟩, hs⟩ := h
    rw [limss]
    exact ⟨h1 _ hi, h2 _ hs⟩
end
theorem wf_in {w : World} {R : Nat → Prop} {t : T} {v : Value} (h : T.In w R t v) (hc : t.chk = 0) : Wf true t ∧ t.depth ≤ 60 := by
  unfold T.chk at hc
  split at hc
  · rename_i hm
    split at hc
    · exact absurd hc (by decide)
    · rename_i hn
      split at hc
      · exact absurd hc (by decide)
      · exact ⟨wf_made true t (lims_in t v h) hm (by simpa using hn), by omega⟩
  · exact absurd hc (by decide)
end P
end Go.Proofs.YthiadenmljbdaaaGreatDoor
end

/-
  s: the parts WEqf WSame WKnown of the proof.
-/
import Derived.Test.YthiadenmljbdaaaGreatDoorB18s
import Derived.Test.YthiadenmljbdaaaGreatDoorB13s
import Derived.Deep.CutRange
import Derived.Test.YthiadenmljbdaaaGreatDoorB12s
import Derived.Test.YthiadenmljbdaaaGreatDoorB34s
import Derived.Test.YthiadenmljbdaaaGreatDoorB35s
import Derived.Test.YthiadenmljbdaaaGreatDoorB9s
import Derived.Test.YthiadenmljbdaaaGreatDoorB32s
section
namespace Go.Proofs.YthiadenmljbdaaaGreatDoor
open Go.RowKit
open Go.Shelf
mutual
def T.sm : T → T → Bool
  | .node k nm ns ng mg ks, u => (k == u.k) && (decide (nm = u.nm) && (decide (ns = u.ns) && ((icmp (sgn ng (N.nv mg)) (sgn u.ng (N.nv u.mg)) == 0) && T.sms ks u.ks)))
def T.sms : List T → List T → Bool
  | [], l => l.isEmpty
  | t :: r, l => match l with
    | [] => false
    | u :: s => T.sm t u && T.sms r s
end
theorem T.sm_eq (t u : T) : t.sm u = ((t.k == u.k) && (decide (t.nm = u.nm) && (decide (t.ns = u.ns) && ((icmp (sgn t.ng (N.nv t.mg)) (sgn u.ng (N.nv u.mg)) == 0) && T.sms t.ks u.ks)))) := by cases t; rw [T.sm]; rfl
theorem T.sms_len : ∀ (l m : List T), T.sms l m = true → l.length = m.length
  | [], [], _ => rfl
  | [], _ :: _, h => by rw [T.sms] at h; cases h
  | _ :: _, [], h => by rw [T.sms] at h; cases h
  | t :: r, u :: s, h => by
    rw [T.sms, Bool.and_eq_true] at h
    rw [List.length_cons, List.length_cons, T.sms_len r s h.2]
theorem T.sms_get : ∀ (l m : List T) (i : Nat), T.sms l m = true → i < l.length → (l.getD i t0).sm (m.getD i t0) = true
  | [], _, _, _, hi => absurd hi (by simp)
  | t :: r, [], _, h, _ => by rw [T.sms] at h; cases h
  | t :: r, u :: s, 0, h, _ => by
    rw [T.sms, Bool.and_eq_true] at h
    exact h.1
  | t :: r, u :: s, i + 1, h, hi => by
    rw [T.sms, Bool.and_eq_true] at h
    exact T.sms_get r s i h.2 (by simpa using hi)
theorem T.sms_all : ∀ (l m : List T), l.length = m.length → (∀ i, i < l.length → (l.getD i t0).sm (m.getD i t0) = true) → T.sms l m = true
  | [], [], _, _ => by rw [T.sms]; rfl
  | [], _ :: _, h, _ => by simp at h
  | _ :: _, [], h, _ => by simp at h
  | t :: r, u :: s, h, hi => by
    rw [T.sms, Bool.and_eq_true]
    exact ⟨hi 0 (by simp), T.sms_all r s (by simpa using h) (fun i h2 => hi (i + 1) (by simpa using h2))⟩
mutual
theorem T.sm_self : ∀ (t : T), t.sm t = true
  | .node k nm ns ng mg ks => by
    have h := T.sms_self ks
    rw [T.sm]
    show ((k == k) && (decide (nm = nm) && (decide (ns = ns) && ((icmp (sgn ng (N.nv mg)) (sgn ng (N.nv mg)) == 0) && T.sms ks ks)))) = true
    rw [h, icmp_eq]
    simp
theorem T.sms_self : ∀ (l : List T), T.sms l l = true
  | [] => by rw [T.sms]; rfl
  | t :: r => by
    have h1 := T.sm_self t
    have h2 := T.sms_self r
    rw [T.sms, h1, h2]
    rfl
end
theorem equal_str (w : World) (R R' : Nat → Prop) (A A' : Option Addr) (c c' : Nat) (ns ns' : List ByteArray) (h : StrL w R A c ns) (h' : StrL w R' A' c' ns') (hb : ns.length ≤ 1048576) (hb' : ns'.length ≤ 1048576) :
    Calls Tryz.prog 51 #[.slice A ns.length c, .slice A' ns'.length c'] w fun e w' => e = .returned (.bool (decide (ns = ns'))) ∧ Below w.heap.size w w' := by
  by_cases hl : ns.length = ns'.length
  · by_cases h0 : ns.length = 0
    · have e1 : ns = [] := List.length_eq_zero_iff.1 h0
      have e2 : ns' = [] := List.length_eq_zero_iff.1 (by omega)
      subst e1 e2
      refine (Tryz.slices_Equal_string_empty A A' c 0 c' w (by omega)).mono ?_
      rintro e w' ⟨rfl, rfl⟩
      exact ⟨rfl, Below.refl _ _⟩
    · obtain ⟨b, o, rfl, _, hc⟩ := h.2 (by omega)
      obtain ⟨b', o', rfl, _, hc'⟩ := h'.2 (by omega)
      refine (Tryz.slices_Equal_string b o ns.length c b' o' ns'.length c' ns ns' w (Nat.le_refl _) (Nat.le_refl _) (by omega) (by omega) hc hc').mono ?_
      rintro e w' ⟨rfl, q, rfl⟩
      rw [List.take_length, List.take_length]
      exact ⟨rfl, below_drewN (Below.refl _ _) q⟩
  · refine (Tryz.slices_Equal_string_lens A A' ns.length c ns'.length c' w hl).mono ?_
    rintro e w' ⟨rfl, rfl⟩
    have hne : ¬ ns = ns' := fun e => hl (by rw [e])
    exact ⟨by rw [decide_eq_false hne], Below.refl _ _⟩
theorem cmp_l (w : World) (R R' : Nat → Prop) (s s' : Bool) (A A' : Option Addr) (c c' : Nat) (l l' : List Nat) (h : SlR w R A c l) (h' : SlR w R' A' c' l') (hb : l.length ≤ 1048576) (hb' : l'.length ≤ 1048576) :
    Calls Tryz.prog 52 #[.agg #[.bool s, .slice A l.length c], .agg #[.bool s', .slice A' l'.length c']] w fun e w' => e = .returned (.int .i64 (icmp (sgn s (N.nv l)) (sgn s' (N.nv l')))) ∧ Below w.heap.size w w' :=
  cmp_i (K := 1048576) (L := 1048576) ⟨s, N.nv l, ⟨_, rfl, A, _, c, l, rfl, trivial, h.1, rfl, hb⟩, rfl⟩ ⟨s', N.nv l', ⟨_, rfl, A', _, c', l', rfl, trivial, h'.1, rfl, hb'⟩, rfl⟩ (by omega)
def SameW (N : Nat) : Prop := ∀ (t u : T) (w : World) (R R' : Nat → Prop) (v v' : Value), t.bulk ≤ N → u.bulk ≤ 1048576 → N ≤ 1048576 → T.In w R t v → T.In w R' u v' →
    Calls Tryz.prog 22 #[v, v'] w fun e w' => e = .returned (.bool (t.sm u)) ∧ Below w.heap.size w w'
set_option maxRecDepth 100000 in
set_option maxHeartbeats 3200000 in
theorem equalfunc_s (N : Nat) (hN2 : N ≤ 1048576) (ih : SameW N) (w : World) (R R' : Nat → Prop) (A A' : Option Addr) (c c' : Nat) (ks ls : List T) (hcap : ks.length ≤ c) (hcap' : ls.length ≤ c') (hl : ks.length ≤ 1048576) (hl' : ls.length ≤ 1048576)
    (hkid : 0 < ks.length → ∃ b o, A = some ⟨b, o, none⟩ ∧ ∀ i, i < ks.length → KidAt w R b (o + i * 6) (ks.getD i t0)) (hkid' : 0 < ls.length → ∃ b o, A' = some ⟨b, o, none⟩ ∧ ∀ i, i < ls.length → KidAt w R' b (o + i * 6) (ls.getD i t0))
    (hb : ∀ i, i < ks.length → (ks.getD i t0).bulk ≤ N) (hb' : ∀ i, i < ls.length → (ls.getD i t0).bulk ≤ 1048576) :
    Calls Tryz.prog 53 #[.slice A ks.length c, .slice A' ls.length c', .func (.func 22) #[] #[]] w fun e w' => e = .returned (.bool (T.sms ks ls)) ∧ Below w.heap.size w w' := by
  obtain ⟨n, hn⟩ : ∃ n, ks.length = n := ⟨_, rfl⟩
  obtain ⟨m, hm⟩ : ∃ m, ls.length = m := ⟨_, rfl⟩
  have HALL := Lib.hid (T.sms_all ks ls)
  have HGET := Lib.hid (T.sms_get ks ls)
  have HLEN := Lib.hid (T.sms_len ks ls)
  rw [hn] at hcap hl hkid hb HALL HGET HLEN ⊢
  rw [hm] at hcap' hl' hkid' hb' HALL HLEN ⊢
  have HN := Lib.hid hn
  have HM := Lib.hid hm
  have HK := Lib.hid hkid
  have HK' := Lib.hid hkid'
  have HB := Lib.hid hb
  have HB' := Lib.hid hb'
  have IH := Lib.hid ih
  clear hn hm hkid hkid' hb hb' ih
  by_cases hnm : n = m
  · subst hnm
    have HA2 := Lib.hid (HALL.out rfl)
    clear HLEN HALL
    have hne : ((n : Int) != (n : Int)) = false := by simp
    go_enter Tryz.func53, Tryz.ntmps53
    go_wp2_with fail
    go_loopg [17] (n + 1) (fun gk v17 wr => ∃ i : Nat, gk + i = n + 1 ∧ i ≤ n ∧ v17 = .int .i64 (i : Nat) ∧ Hid (∀ j, j < i → (ks.getD j t0).sm (ls.getD j t0) = true) ∧ Below w.heap.size w wr)
    case atStart => exact ⟨0, by omega, Nat.zero_le _, rfl, Lib.hid (fun j hj => by omega), Below.refl _ _⟩
    case round =>
      obtain ⟨i, hi, hin, rfl, HS, hbw⟩ := hrel
      by_cases hlt : i < n
      · obtain ⟨b, o, rfl, hk⟩ := HK.out (by omega)
        obtain ⟨b', o', rfl, hk'⟩ := HK'.out (by omega)
        have hkd := hk i hlt
        have hkd' := hk' i hlt
        have hub := HB.out i hlt
        have hub' := HB'.out i hlt
        have hget := fun h => HGET.out i h hlt
        obtain ⟨t, ht⟩ : ∃ u, ks.getD i t0 = u := ⟨_, rfl⟩
        obtain ⟨u, hu⟩ : ∃ u, ls.getD i t0 = u := ⟨_, rfl⟩
        obtain ⟨r, hr⟩ : ∃ r, t.sm u = r := ⟨_, rfl⟩
        have HT := Lib.hid ht
        have HU := Lib.hid hu
        rw [ht] at hkd hub hget
        rw [hu] at hkd' hub' hget
        rw [hr] at hget
        have HG := Lib.hid hget
        have HR := Lib.hid hr
        obtain ⟨B1, d1, B2, d2, B3, d3, h6, hkin⟩ := hkd.below hbw
        obtain ⟨E1, g1, E2, g2, E3, g3, k6, hkin'⟩ := hkd'.below hbw
        obtain ⟨W1, hW1, p1, hb1⟩ := made_blk wr #[.int .i64 t.k, .string t.nm, .slice B1 t.ns.length d1, .bool t.ng, .slice B2 t.mg.length d2, .slice B3 t.ks.length d3] 28
        obtain ⟨a1, ha1⟩ : ∃ a, a = wr.heap.size := ⟨_, rfl⟩
        obtain ⟨W2, hW2, p2, hb2⟩ := made_blk W1 #[.int .i64 u.k, .string u.nm, .slice E1 u.ns.length g1, .bool u.ng, .slice E2 u.mg.length g2, .slice E3 u.ks.length g3] 28
        obtain ⟨a2, ha2⟩ : ∃ a, a = W1.heap.size := ⟨_, rfl⟩
        have HI := Lib.hid (hkin.below (below_on hb1 hb2))
        have HI' := Lib.hid (hkin'.below (below_on hb1 hb2))
        have k61 := k6.below hb1
        rw [← ha1] at p1
        rw [← ha2] at p2
        have p12 := p1.below hb2
        have hbw2 := below_on hbw (below_on hb1 hb2)
        have hi0 : (0 : Int) ≤ i := by omega
        have hi1 : (i : Int) < n := by omega
        clear hk hk' hkd hkd' hget hr ht hu hkin hkin' k6 hb1 hb2 p1
        obtain ⟨e0, e1, e2, e3, e4, e5⟩ := h6
        go_upto_region 6 with (fail)
        rw [← hW1, ← ha1]
        clear e0 e1 e2 e3 e4 e5 hW1 ha1
        obtain ⟨f0, f1, f2, f3, f4, f5⟩ := k61
        go_upto_region 7 with (fail)
        rw [← hW2, ← ha2]
        clear f0 f1 f2 f3 f4 f5 hW2 ha2
        obtain ⟨x0, x1, x2, x3, x4, x5⟩ := p12.six
        obtain ⟨y0, y1, y2, y3, y4, y5⟩ := p2.six
        cases r
        · go_wp2_with (go_at_call 22; refine (IH.out t u _ R R' _ _ hub hub' hN2 HI.out HI'.out).mono ?_; rw [HR.out]; rintro e w3 ⟨rfl, hb3⟩)
          go_ret
          exact ⟨by cases hq : T.sms ks ls with | false => rfl | true => exact absurd (HG.out hq) (by decide), below_on hbw2 hb3⟩
        · go_wp2_with (go_at_call 22; refine (IH.out t u _ R R' _ _ hub hub' hN2 HI.out HI'.out).mono ?_; rw [HR.out]; rintro e w3 ⟨rfl, hb3⟩)
          go_roundg (n - i)
          case measure => omega
          case rel =>
            refine ⟨i + 1, by omega, by omega, by go_num, Lib.hid (fun j hj => ?_), below_on hbw2 hb3⟩
            by_cases hji : j = i
            · subst hji
              rw [HT.out, HU.out, HR.out]
            · exact HS.out j (by omega)
      · have HF := Lib.hid (HA2.out (fun j hj => HS.out j (by omega)))
        clear HA2 HS HGET
        obtain rfl : i = n := by omega
        go_wp2_with fail
        go_ret
        exact ⟨by rw [HF.out]; rfl, hbw⟩
  · have hne : ((n : Int) != (m : Int)) = true := by simp; omega
    have HF : Hid (T.sms ks ls = false) := Lib.hid (by cases hq : T.sms ks ls with | false => rfl | true => exact absurd (HLEN.out hq) hnm)
    go_enter Tryz.func53, Tryz.ntmps53
    go_wp2_with fail
    go_ret
    exact ⟨by rw [HF.out]; rfl, Below.refl _ _⟩
end Go.Proofs.YthiadenmljbdaaaGreatDoor
end
section
namespace Go.Proofs.YthiadenmljbdaaaGreatDoor
open Go.RowKit
open Go.Shelf
set_option maxRecDepth 100000 in
set_option maxHeartbeats 3200000 in
theorem same_w : ∀ (M : Nat), SameW M
  | 0, t, _, _, _, _, _, _, hN, _, _, _, _ => by have := T.bulk_pos t; omega
  | M + 1, t, u, w, R, R', v, v', hN, hM, hN2, h, h' => by
    have ih := same_w M
    obtain ⟨A1, c1, A2, c2, A3, c3, rfl, hst, hsl, hc3, hkids⟩ := h.open
    obtain ⟨E1, g1, E2, g2, E3, g3, rfl, hst', hsl', hg3, hkids'⟩ := h'.open
    obtain ⟨_, hl2, _, hl4, hl5⟩ := T.len_le hN
    obtain ⟨_, hm2, _, hm4, hm5⟩ := T.len_le hM
    obtain ⟨q1, hq1⟩ : ∃ q, (t.k == u.k) = q := ⟨_, rfl⟩
    obtain ⟨q2, hq2⟩ : ∃ q, decide (t.nm = u.nm) = q := ⟨_, rfl⟩
    obtain ⟨q3, hq3⟩ : ∃ q, decide (t.ns = u.ns) = q := ⟨_, rfl⟩
    obtain ⟨z, hz⟩ : ∃ z, icmp (sgn t.ng (N.nv t.mg)) (sgn u.ng (N.nv u.mg)) = z := ⟨_, rfl⟩
    obtain ⟨q4, hq4⟩ : ∃ q, (z == 0) = q := ⟨_, rfl⟩
    obtain ⟨q5, hq5⟩ : ∃ q, T.sms t.ks u.ks = q := ⟨_, rfl⟩
    have HE : Hid (t.sm u = (q1 && (q2 && (q3 && (q4 && q5))))) := Lib.hid (by rw [T.sm_eq, hq1, hq2, hq3, hz, hq4, hq5])
    have hq2' : (t.nm.toList == u.nm.toList) = q2 := by rw [← hq2, beq_str]
    have hub : ∀ i, i < t.ks.length → (t.ks.getD i t0).bulk ≤ M := fun i hi => T.kid_bulk hN hi
    have hub' : ∀ i, i < u.ks.length → (u.ks.getD i t0).bulk ≤ 1048576 := fun i hi => T.kid_bulk (Nat.le_trans hM (by omega)) hi
    obtain ⟨W1, hW1, p1, hb1⟩ := made_blk w #[.int .i64 t.k, .string t.nm, .slice A1 t.ns.length c1, .bool t.ng, .slice A2 t.mg.length c2, .slice A3 t.ks.length c3] 28
    obtain ⟨a1, ha1⟩ : ∃ a, a = w.heap.size := ⟨_, rfl⟩
    obtain ⟨W, hW2, p2, hb2⟩ := made_blk W1 #[.int .i64 u.k, .string u.nm, .slice E1 u.ns.length g1, .bool u.ng, .slice E2 u.mg.length g2, .slice E3 u.ks.length g3] 28
    obtain ⟨a2, ha2⟩ : ∃ a, a = W1.heap.size := ⟨_, rfl⟩
    have hbW := below_on hb1 hb2
    rw [← ha1] at p1
    rw [← ha2] at p2
    have p12 := p1.below hb2
    have ha3 : a2 = w.heap.size + 1 := by rw [ha2, hW1]; simp
    rw [hW1] at hW2
    clear ha2 hW1
    have HS : Hid (∀ w', Below W.heap.size W w' → Calls Tryz.prog 51 #[.slice A1 t.ns.length c1, .slice E1 u.ns.length g1] w' fun e w'' => e = .returned (.bool q3) ∧ Below w'.heap.size w' w'') := Lib.hid (fun w' hb' => hq3 ▸ equal_str w' R R' A1 E1 c1 g1 t.ns u.ns (hst.keep (fun p _ _ hp => ((below_on hbW hb').cell (World.block_lt_of_cell? w p hp)).trans hp) (fun _ h => h)) (hst'.keep (fun p _ _ hp => ((below_on hbW hb').cell (World.block_lt_of_cell? w p hp)).trans hp) (fun _ h => h)) (by omega) (by omega))
    have HC : Hid (∀ w', Below W.heap.size W w' → Calls Tryz.prog 52 #[.agg #[.bool t.ng, .slice A2 t.mg.length c2], .agg #[.bool u.ng, .slice E2 u.mg.length g2]] w' fun e w'' => e = .returned (.int .i64 z) ∧ Below w'.heap.size w' w'') := Lib.hid (fun w' hb' => hz ▸ cmp_l w' R R' t.ng u.ng A2 E2 c2 g2 t.mg u.mg (hsl.keep (fun p _ _ hp => ((below_on hbW hb').cell (World.block_lt_of_cell? w p hp)).trans hp) (fun _ h => h)) (hsl'.keep (fun p _ _ hp => ((below_on hbW hb').cell (World.block_lt_of_cell? w p hp)).trans hp) (fun _ h => h)) (by omega) (by omega))
    have HF : Hid (∀ w', Below W.heap.size W w' → Calls Tryz.prog 53 #[.slice A3 t.ks.length c3, .slice E3 u.ks.length g3, .func (.func 22) #[] #[]] w' fun e w'' => e = .returned (.bool q5) ∧ Below w'.heap.size w' w'') := Lib.hid (fun w' hb' => hq5 ▸ equalfunc_s M (by omega) ih w' R R' A3 E3 c3 g3 t.ks u.ks hc3 hg3 (by omega) (by omega)
      (fun h0 => by obtain ⟨b, o, e, hk⟩ := hkids h0; exact ⟨b, o, e, fun i hi => (hk i hi).below (below_on hbW hb')⟩)
      (fun h0 => by obtain ⟨b, o, e, hk⟩ := hkids' h0; exact ⟨b, o, e, fun i hi => (hk i hi).below (below_on hbW hb')⟩) hub hub')
    have hS := Below.refl W.heap.size W
    clear hst hst' hsl hsl' hkids hkids' ih h h' hN hM hub hub' hq3 hz hq5 p1 hb1 hb2 hc3 hg3 hl2 hl4 hl5 hm2 hm4 hm5
    go_enter Tryz.func22, Tryz.ntmps22
    go_upto_region 1 with (fail)
    rw [← hW2, ← ha3, ← ha1]
    clear hW2 ha1 ha3
    obtain ⟨x0, x1, x2, x3, x4, x5⟩ := p12.six
    obtain ⟨y0, y1, y2, y3, y4, y5⟩ := p2.six
    cases q1
    · go_wp2_with fail
      go_ret
      exact ⟨by rw [HE.out]; rfl, hbW⟩
    cases q2
    · go_wp2_with fail
      go_ret
      exact ⟨by rw [HE.out]; rfl, hbW⟩
    cases q3
    · go_wp2_with (go_at_call 51; refine (HS.out _ hS).mono ?_; rintro e w2 ⟨rfl, hb2⟩; have hS2 := below_on hS hb2; clear x0 x1 x2 x3 x4 x5 y0 y1 y2 y3 y4 y5 hb2; obtain ⟨x0, x1, x2, x3, x4, x5⟩ := (p12.below hS2).six; obtain ⟨y0, y1, y2, y3, y4, y5⟩ := (p2.below hS2).six)
      go_ret
      exact ⟨by rw [HE.out]; rfl, below_on hbW hS2⟩
    cases q4
    · go_wp2_with (first | (go_at_call 51; refine (HS.out _ hS).mono ?_; rintro e w2 ⟨rfl, hb2⟩; have hS2 := below_on hS hb2; clear x0 x1 x2 x3 x4 x5 y0 y1 y2 y3 y4 y5 hb2; obtain ⟨x0, x1, x2, x3, x4, x5⟩ := (p12.below hS2).six; obtain ⟨y0, y1, y2, y3, y4, y5⟩ := (p2.below hS2).six) | (go_at_call 52; refine (HC.out _ hS2).mono ?_; rintro e w3 ⟨rfl, hb3⟩; have hS3 := below_on hS2 hb3; clear x0 x1 x2 x3 x4 x5 y0 y1 y2 y3 y4 y5 hb3; obtain ⟨x0, x1, x2, x3, x4, x5⟩ := (p12.below hS3).six; obtain ⟨y0, y1, y2, y3, y4, y5⟩ := (p2.below hS3).six))
      go_ret
      exact ⟨by rw [HE.out]; rfl, below_on hbW hS3⟩
    · go_wp2_with (first | (go_at_call 51; refine (HS.out _ hS).mono ?_; rintro e w2 ⟨rfl, hb2⟩; have hS2 := below_on hS hb2; clear x0 x1 x2 x3 x4 x5 y0 y1 y2 y3 y4 y5 hb2; obtain ⟨x0, x1, x2, x3, x4, x5⟩ := (p12.below hS2).six; obtain ⟨y0, y1, y2, y3, y4, y5⟩ := (p2.below hS2).six) | (go_at_call 52; refine (HC.out _ hS2).mono ?_; rintro e w3 ⟨rfl, hb3⟩; have hS3 := below_on hS2 hb3; clear x0 x1 x2 x3 x4 x5 y0 y1 y2 y3 y4 y5 hb3; obtain ⟨x0, x1, x2, x3, x4, x5⟩ := (p12.below hS3).six; obtain ⟨y0, y1, y2, y3, y4, y5⟩ := (p2.below hS3).six) | (go_at_call 53; refine (HF.out _ hS3).mono ?_; rintro e w4 ⟨rfl, hb4⟩; have hS4 := below_on hS3 hb4))
      go_ret
      exact ⟨by rw [HE.out]; rfl, below_on hbW hS4⟩
end Go.Proofs.YthiadenmljbdaaaGreatDoor
end
section
namespace Go.Proofs.YthiadenmljbdaaaGreatDoor
open Go.RowKit
open Go.Shelf Go.Maps Go.Sort
theorem kn_prS : knT.prS = knP.data.toList := by
  unfold T.prS
  rw [if_pos kn_chk, kn_said]
  rfl
theorem kn_prE : knT.prE = 0 := by
  unfold T.prE
  rw [if_pos kn_chk, kn_said]
  rfl
theorem kn_bulk : knT.bulk ≤ 1048576 := by decide
theorem kn_fv (x : List UInt8) : knT.fv (fun _ => 0) x = decide (x = [120]) := by
  have h1 : ∀ (β : List UInt8 → Int) (x : List UInt8), kn1.fv β x = false := fun β x => by unfold kn1; rw [T.fv, T.fvs]; rfl
  have h2 : ∀ (β : List UInt8 → Int) (x : List UInt8), knX.fv β x = ((β [120] == 0) && decide (x = [120])) := fun β x => by unfold knX; rw [T.fv, T.fvs, Bool.or_false]; rfl
  have h3 : ∀ (β : List UInt8 → Int) (x : List UInt8), knY.fv β x = ((β [121] == 0) && decide (x = [121])) := fun β x => by unfold knY; rw [T.fv, T.fvs, Bool.or_false]; rfl
  unfold knT P.nd
  simp only [T.fv, T.fvs, h1, h2, h3, bnd]
  simp [cntL]
theorem kn_free {L : List (List UInt8)} (h : FreeL knT L) : L.length = 1 := by
  obtain ⟨h1, h2, _⟩ := h
  have h3 : ∀ x, x ∈ L ↔ x = [120] := fun x => by rw [h2 x, kn_fv x, decide_eq_true_eq]
  match L, h1, h3 with
  | [], _, h3 => exact absurd ((h3 [120]).2 rfl) (by simp)
  | [a], _, _ => rfl
  | a :: b :: r, h1, h3 =>
    have ha := (h3 a).1 (by simp)
    have hb := (h3 b).1 (by simp)
    rw [ha, hb] at h1
    simp at h1
theorem parse_kn (w : World) :
    Calls Tryz.prog 12 #[.string ⟨#[110, 111, 116, 40, 120, 60, 49, 41, 111, 114, 32, 115, 111, 109, 101, 32, 121, 46, 50, 32, 100, 105, 118, 105, 100, 101, 115, 32, 120, 45, 40, 121, 43, 49, 41]⟩] w fun ex w' => ∃ A1 c1 A2 c2 A3 c3, ex = .returned (.tuple #[.agg #[.int .i64 18, .string ⟨#[]⟩, .slice A1 0 c1, .bool false, .slice A2 0 c2, .slice A3 2 c3], .agg #[.int .i64 0, .int .i64 0]]) ∧ T.In w' (fun b => w.heap.size ≤ b ∧ b < w'.heap.size) knT (.agg #[.int .i64 18, .string ⟨#[]⟩, .slice A1 0 c1, .bool false, .slice A2 0 c2, .slice A3 2 c3]) ∧ Below w.heap.size w w' := by
  have := parse_x w knS
  rw [kn_res] at this
  refine this.mono ?_
  rintro ex w' ⟨v, rfl, hg, hb⟩
  have hin := T.GotE.In knT _ _ v (fun b => w.heap.size ≤ b ∧ b < w'.heap.size) hg (fun _ h => h) (fun _ h1 h2 => ⟨h1, h2⟩)
  obtain ⟨A1, c1, A2, c2, A3, c3, rfl⟩ := T.GotE.form hg
  exact ⟨A1, c1, A2, c2, A3, c3, rfl, hin, hb⟩
theorem print_kn (w : World) (R : Nat → Prop) (v : Value) (h : T.In w R knT v) :
    Calls Tryz.prog 18 #[v] w fun e w' => e = .returned (.tuple #[.string ⟨#[110, 111, 116, 32, 120, 32, 60, 32, 49, 32, 111, 114, 32, 115, 111, 109, 101, 32, 121, 32, 46, 32, 50, 32, 100, 105, 118, 105, 100, 101, 115, 32, 120, 32, 45, 32, 40, 121, 32, 43, 32, 49, 41]⟩, .int .i64 0]) ∧ Below w.heap.size w w' := by
  have := print_t knT w R v kn_bulk h
  rw [kn_prS, kn_prE] at this
  exact this
theorem check_kn (w : World) (R : Nat → Prop) (v : Value) (h : T.In w R knT v) : Calls Tryz.prog 19 #[v] w fun e w' => e = .returned (.int .i64 0) ∧ Below w.heap.size w w' := by
  have := check_t knT w R v kn_bulk h
  rw [kn_chk] at this
  exact this
theorem size_kn (w : World) (R : Nat → Prop) (v : Value) (h : T.In w R knT v) : Calls Tryz.prog 24 #[v] w fun e w' => e = .returned (.int .i64 12) ∧ Below w.heap.size w w' := by
  have := size_t 1048576 knT w R v kn_bulk (Nat.le_refl _) h
  rw [kn_size] at this
  exact this
theorem free_kn (w : World) (R : Nat → Prop) (v : Value) (h : T.In w R knT v) : Calls Tryz.prog 29 #[v] w fun e w' => ∃ A c, e = .returned (.slice A 1 c) ∧ Below w.heap.size w w' := by
  refine (free_t knT w R v kn_bulk h).mono ?_
  rintro e w' ⟨u, L, rfl, hown, hL, hb⟩
  have h1 := kn_free hL
  rw [h1] at hown
  rcases hown.2 with ⟨_, h0⟩ | ⟨g, cap, cur, rfl, _⟩
  · exact absurd h0 (by decide)
  · exact ⟨_, _, rfl, hb⟩
theorem same_kn (w : World) (R R' : Nat → Prop) (t u : T) (v v' : Value) (ht : t.bulk ≤ 1048576) (hu : u.bulk ≤ 1048576) (hs : t.sm u = true) (h : T.In w R t v) (h' : T.In w R' u v') : Calls Tryz.prog 22 #[v, v'] w fun e w' => e = .returned (.bool true) ∧ Below w.heap.size w w' := by
  have := same_w 1048576 t u w R R' v v' ht hu (Nat.le_refl _) h h'
  rw [hs] at this
  exact this
theorem kn_cp : knT.cp.sm knT = true := by kernel_rfl
theorem kn_cpb : knT.cp.bulk ≤ 1048576 := by decide
theorem copy_kn (w : World) (R : Nat → Prop) (v : Value) (h : T.In w R knT v) : Calls Tryz.prog 27 #[v] w fun e w' => ∃ u, e = .returned u ∧ T.In w' (fun _ => True) knT.cp u ∧ Below w.heap.size w w' := by
  refine (copy_t 1048576 knT w R v kn_bulk (Nat.le_refl _) h).mono ?_
  rintro e w' ⟨c, rfl, hn, hb⟩
  exact ⟨_, rfl, hn.In _ _ _ _ _ (fun _ _ _ => trivial), hb⟩
set_option maxRecDepth 100000 in
set_option maxHeartbeats 4000000 in
theorem known_w (w : World) : Calls Tryz.prog 15 #[] w fun e w' => e = .returned (.bool true) ∧ Below w.heap.size w w' := by
  go_enter Tryz.func15, Tryz.ntmps15
  go_upto_region 2 with (go_at_call 12; refine (parse_kn w).mono ?_; rintro ex w1 ⟨A1, c1, A2, c2, A3, c3, rfl, hin, hb1⟩)
  obtain ⟨W1, hW1, ps1, hbW1⟩ := made_blk w1 #[.int .i64 18, .string ⟨#[]⟩, .slice A1 0 c1, .bool false, .slice A2 0 c2, .slice A3 2 c3] 28
  obtain ⟨W, hW, pm, hbW2⟩ : ∃ W : World, W = W1.alloc (.cells #[.int .i64 0, .int .i64 0] 31) ∧ Pair W W1.heap.size 31 (.int .i64 0) (.int .i64 0) ∧ Below W1.heap.size W1 W := ⟨_, rfl, Pair.new _ _ _ _, below_alloc1 _ _⟩
  have hsz : W1.heap.size = w1.heap.size + 1 := by rw [hW1]; simp
  have hbw := below_on hb1 (below_on hbW1 hbW2)
  have HI := Lib.hid (hin.below (below_on hbW1 hbW2))
  have ps := ps1.below hbW2
  rw [hsz] at pm
  rw [hW1] at hW
  rw [← hW]
  obtain ⟨g2, hg2⟩ : ∃ x, x = w1.heap.size + 1 := ⟨_, rfl⟩
  obtain ⟨g, hg⟩ : ∃ x, x = w1.heap.size := ⟨_, rfl⟩
  rw [← hg2] at pm ⊢
  rw [← hg] at ps ⊢
  clear hW hW1 hg hg2 hsz ps1 hbW1 hbW2 hin hb1
  have hV0 := Below.refl W.heap.size W
  obtain ⟨x0, x1, x2, x3, x4, x5⟩ := ps.six
  go_upto_region 3 with (go_at_call 18; refine (print_kn _ _ _ HI.out).mono ?_; rintro e w2 ⟨rfl, hb2⟩)
  have hV1 := below_on hV0 hb2
  clear hb2 x0 x1 x2 x3 x4 x5
  refine wp_region_held_drew (S := fun w' => w'.cell? ⟨g, 0, none⟩ = some (.int .i64 18) ∧ w'.cell? ⟨g, 1, none⟩ = some (.string ⟨#[]⟩) ∧ w'.cell? ⟨g, 2, none⟩ = some (.slice A1 0 c1) ∧ w'.cell? ⟨g, 3, none⟩ = some (.bool false) ∧ w'.cell? ⟨g, 4, none⟩ = some (.slice A2 0 c2) ∧ w'.cell? ⟨g, 5, none⟩ = some (.slice A3 2 c3) ∧ w'.cell? ⟨g2, 0, none⟩ = some (.int .i64 0) ∧ w'.cell? ⟨g2, 1, none⟩ = some (.int .i64 0)) (by kernel_rfl) (by obtain ⟨x0, x1, x2, x3, x4, x5⟩ := (ps.below hV1).six; obtain ⟨_, _, m0, m1⟩ := (pm.below hV1).facts; exact ⟨x0, x1, x2, x3, x4, x5, m0, m1⟩) (fun hHeld => ?_)
  have hV2 := below_on hV1 (below_drew1 w2)
  refine take_at 0 (by kernel_rfl) (by kernel_rfl) (by kernel_rfl) (fun _ _ d _ _ h => by cases d <;> exact h) ⟨_, rfl⟩ (by assumption) (fun o ho => ?_)
  simp only [List.getElem?_toArray, List.getElem?_cons_zero, Option.some.injEq] at ho
  subst ho
  refine ⟨?_, ⟨by rfl, ?_⟩, ?_⟩
  rotate_left
  · intro w hSw
    obtain ⟨x0, x1, x2, x3, x4, x5, m0, m1⟩ := hSw
    (go_simp; try with_reducible rfl)
  (try simp only [Act.put, List.setIfInBounds_toArray, List.set_cons_zero, List.set_cons_succ])
  refine take_at 1 (by kernel_rfl) (by kernel_rfl) (by kernel_rfl) (fun _ _ d _ _ h => by cases d <;> exact h) ⟨_, rfl⟩ (by assumption) (fun o ho => ?_)
  simp only [List.getElem?_toArray, List.getElem?_cons_succ, List.getElem?_cons_zero, Option.some.injEq] at ho
  subst ho
  refine ⟨?_, ⟨by rfl, ?_⟩, ?_⟩
  rotate_left
  · intro w hSw
    obtain ⟨x0, x1, x2, x3, x4, x5, m0, m1⟩ := hSw
    (go_simp; try with_reducible rfl)
  (try simp only [Act.put, List.setIfInBounds_toArray, List.set_cons_zero, List.set_cons_succ])
  refine take_at 2 (by kernel_rfl) (by kernel_rfl) (by kernel_rfl) (fun _ _ d _ _ h => by cases d <;> exact h) ⟨_, rfl⟩ (by assumption) (fun o ho => ?_)
  simp only [List.getElem?_toArray, List.getElem?_cons_succ, List.getElem?_cons_zero, Option.some.injEq] at ho
  subst ho
  refine ⟨?_, ⟨by rfl, ?_⟩, ?_⟩
  rotate_left
  · intro w hSw
    obtain ⟨x0, x1, x2, x3, x4, x5, m0, m1⟩ := hSw
    (go_simp; try with_reducible rfl)
  (try simp only [Act.put, List.setIfInBounds_toArray, List.set_cons_zero, List.set_cons_succ])
  refine take_at 3 (by kernel_rfl) (by kernel_rfl) (by kernel_rfl) (fun _ _ d _ _ h => by cases d <;> exact h) ⟨_, rfl⟩ (by assumption) (fun o ho => ?_)
  simp only [List.getElem?_toArray, List.getElem?_cons_succ, List.getElem?_cons_zero, Option.some.injEq] at ho
  subst ho
  refine ⟨?_, ⟨by rfl, ?_⟩, ?_⟩
  rotate_left
  · intro w hSw
    obtain ⟨x0, x1, x2, x3, x4, x5, m0, m1⟩ := hSw
    (go_simp; try with_reducible rfl)
  (try simp only [Act.put, List.setIfInBounds_toArray, List.set_cons_zero, List.set_cons_succ])
  refine take_at 4 (by kernel_rfl) (by kernel_rfl) (by kernel_rfl) (fun _ _ d _ _ h => by cases d <;> exact h) ⟨_, rfl⟩ (by assumption) (fun o ho => ?_)
  simp only [List.getElem?_toArray, List.getElem?_cons_succ, List.getElem?_cons_zero, Option.some.injEq] at ho
  subst ho
  refine ⟨?_, ⟨by rfl, ?_⟩, ?_⟩
  rotate_left
  · intro w hSw
    obtain ⟨x0, x1, x2, x3, x4, x5, m0, m1⟩ := hSw
    (go_simp; try with_reducible rfl)
  (try simp only [Act.put, List.setIfInBounds_toArray, List.set_cons_zero, List.set_cons_succ])
  refine take_at 5 (by kernel_rfl) (by kernel_rfl) (by kernel_rfl) (fun _ _ d _ _ h => by cases d <;> exact h) ⟨_, rfl⟩ (by assumption) (fun o ho => ?_)
  simp only [List.getElem?_toArray, List.getElem?_cons_succ, List.getElem?_cons_zero, Option.some.injEq] at ho
  subst ho
  refine ⟨?_, ⟨by rfl, ?_⟩, ?_⟩
  rotate_left
  · intro w hSw
    obtain ⟨x0, x1, x2, x3, x4, x5, m0, m1⟩ := hSw
    (go_simp; try with_reducible rfl)
  (try simp only [Act.put, List.setIfInBounds_toArray, List.set_cons_zero, List.set_cons_succ])
  refine take_at 6 (by kernel_rfl) (by kernel_rfl) (by kernel_rfl) (fun _ _ d _ _ h => by cases d <;> exact h) ⟨_, rfl⟩ (by assumption) (fun o ho => ?_)
  simp only [List.getElem?_toArray, List.getElem?_cons_succ, List.getElem?_cons_zero, Option.some.injEq] at ho
  subst ho
  refine ⟨?_, ⟨by rfl, ?_⟩, ?_⟩
  rotate_left
  · intro w hSw
    obtain ⟨x0, x1, x2, x3, x4, x5, m0, m1⟩ := hSw
    (go_simp; try with_reducible rfl)
  (try simp only [Act.put, List.setIfInBounds_toArray, List.set_cons_zero, List.set_cons_succ])
  refine take_at 7 (by kernel_rfl) (by kernel_rfl) (by kernel_rfl) (fun _ _ d _ _ h => by cases d <;> exact h) ⟨_, rfl⟩ (by assumption) (fun o ho => ?_)
  simp only [List.getElem?_toArray, List.getElem?_cons_succ, List.getElem?_cons_zero, Option.some.injEq] at ho
  subst ho
  refine ⟨?_, ⟨by rfl, ?_⟩, ?_⟩
  rotate_left
  · intro w hSw
    obtain ⟨x0, x1, x2, x3, x4, x5, m0, m1⟩ := hSw
    (go_simp; try with_reducible rfl)
  (try simp only [Act.put, List.setIfInBounds_toArray, List.set_cons_zero, List.set_cons_succ])
  refine take_at 8 (by kernel_rfl) (by kernel_rfl) (by kernel_rfl) (fun _ _ d _ _ h => by cases d <;> exact h) ⟨_, rfl⟩ (by assumption) (fun o ho => ?_)
  simp only [List.getElem?_toArray, List.getElem?_cons_succ, List.getElem?_cons_zero, Option.some.injEq] at ho
  subst ho
  refine ⟨?_, ⟨by rfl, ?_⟩, ?_⟩
  rotate_left
  · intro w hSw
    obtain ⟨x0, x1, x2, x3, x4, x5, m0, m1⟩ := hSw
    (go_simp; try with_reducible rfl)
  (try simp only [Act.put, List.setIfInBounds_toArray, List.set_cons_zero, List.set_cons_succ])
  refine take_at 9 (by kernel_rfl) (by kernel_rfl) (by kernel_rfl) (fun _ _ d _ _ h => by cases d <;> exact h) ⟨_, rfl⟩ (by assumption) (fun o ho => ?_)
  simp only [List.getElem?_toArray, List.getElem?_cons_succ, List.getElem?_cons_zero, Option.some.injEq] at ho
  subst ho
  refine ⟨?_, ⟨by rfl, ?_⟩, ?_⟩
  rotate_left
  · intro w hSw
    obtain ⟨x0, x1, x2, x3, x4, x5, m0, m1⟩ := hSw
    (go_simp; try with_reducible rfl)
  (try simp only [Act.put, List.setIfInBounds_toArray, List.set_cons_zero, List.set_cons_succ])
  refine take_at 10 (by kernel_rfl) (by kernel_rfl) (by kernel_rfl) (fun _ _ d _ _ h => by cases d <;> exact h) ⟨_, rfl⟩ (by assumption) (fun o ho => ?_)
  simp only [List.getElem?_toArray, List.getElem?_cons_succ, List.getElem?_cons_zero, Option.some.injEq] at ho
  subst ho
  refine ⟨?_, ⟨by rfl, ?_⟩, ?_⟩
  rotate_left
  · intro w hSw
    obtain ⟨x0, x1, x2, x3, x4, x5, m0, m1⟩ := hSw
    (go_simp; try with_reducible rfl)
  (try simp only [Act.put, List.setIfInBounds_toArray, List.set_cons_zero, List.set_cons_succ])
  refine take_at 11 (by kernel_rfl) (by kernel_rfl) (by kernel_rfl) (fun _ _ d _ _ h => by cases d <;> exact h) ⟨_, rfl⟩ (by assumption) (fun o ho => ?_)
  simp only [List.getElem?_toArray, List.getElem?_cons_succ, List.getElem?_cons_zero, Option.some.injEq] at ho
  subst ho
  refine ⟨?_, ⟨by rfl, ?_⟩, ?_⟩
  rotate_left
  · intro w hSw
    obtain ⟨x0, x1, x2, x3, x4, x5, m0, m1⟩ := hSw
    (go_simp; try with_reducible rfl)
  (try simp only [Act.put, List.setIfInBounds_toArray, List.set_cons_zero, List.set_cons_succ])
  refine take_at 12 (by kernel_rfl) (by kernel_rfl) (by kernel_rfl) (fun _ _ d _ _ h => by cases d <;> exact h) ⟨_, rfl⟩ (by assumption) (fun o ho => ?_)
  simp only [List.getElem?_toArray, List.getElem?_cons_succ, List.getElem?_cons_zero, Option.some.injEq] at ho
  subst ho
  refine ⟨?_, ⟨by rfl, ?_⟩, ?_⟩
  rotate_left
  · intro w hSw
    obtain ⟨x0, x1, x2, x3, x4, x5, m0, m1⟩ := hSw
    (go_simp; try with_reducible rfl)
  (try simp only [Act.put, List.setIfInBounds_toArray, List.set_cons_zero, List.set_cons_succ])
  refine wpAnyH_ready (rs := [13]) (by kernel_rfl) (by simp) ?_
  refine ready_at 13 ⟨_, rfl⟩ (fun o ho K hK => ?_) AllReadyH.nil
  simp only [List.getElem?_toArray, List.getElem?_cons_succ, List.getElem?_cons_zero, Option.some.injEq] at ho
  subst ho
  go_simp
  go_at_call 19
  refine (check_kn _ _ _ (HI.out.below hV2)).mono ?_
  rintro e w3 ⟨rfl, hb3⟩
  have hV3 := below_on hV2 hb3
  clear hb3
  refine hK.out _ _ ?_ (fun hHeld2 => ?_)
  · obtain ⟨x0, x1, x2, x3, x4, x5⟩ := (ps.below hV3).six
    obtain ⟨_, _, m0, m1⟩ := (pm.below hV3).facts
    exact ⟨x0, x1, x2, x3, x4, x5, m0, m1⟩
  replace hHeld := hHeld2
  clear hK K hHeld2
  (try simp only [List.setIfInBounds_toArray, List.set_cons_zero, List.set_cons_succ])
  refine take_at 14 (by kernel_rfl) (by kernel_rfl) (by kernel_rfl) (fun _ _ d _ _ h => by cases d <;> exact h) ⟨_, rfl⟩ (by assumption) (fun o ho => ?_)
  simp only [List.getElem?_toArray, List.getElem?_cons_succ, List.getElem?_cons_zero, Option.some.injEq] at ho
  subst ho
  refine ⟨?_, ⟨by rfl, ?_⟩, ?_⟩
  rotate_left
  · intro w hSw
    obtain ⟨x0, x1, x2, x3, x4, x5, m0, m1⟩ := hSw
    (go_simp; try with_reducible rfl)
  (try simp only [Act.put, List.setIfInBounds_toArray, List.set_cons_zero, List.set_cons_succ])
  refine take_at 15 (by kernel_rfl) (by kernel_rfl) (by kernel_rfl) (fun _ _ d _ _ h => by cases d <;> exact h) ⟨_, rfl⟩ (by assumption) (fun o ho => ?_)
  simp only [List.getElem?_toArray, List.getElem?_cons_succ, List.getElem?_cons_zero, Option.some.injEq] at ho
  subst ho
  refine ⟨?_, ⟨by rfl, ?_⟩, ?_⟩
  rotate_left
  · intro w hSw
    obtain ⟨x0, x1, x2, x3, x4, x5, m0, m1⟩ := hSw
    (go_simp; try with_reducible rfl)
  (try simp only [Act.put, List.setIfInBounds_toArray, List.set_cons_zero, List.set_cons_succ])
  refine take_at 16 (by kernel_rfl) (by kernel_rfl) (by kernel_rfl) (fun _ _ d _ _ h => by cases d <;> exact h) ⟨_, rfl⟩ (by assumption) (fun o ho => ?_)
  simp only [List.getElem?_toArray, List.getElem?_cons_succ, List.getElem?_cons_zero, Option.some.injEq] at ho
  subst ho
  refine ⟨?_, ⟨by rfl, ?_⟩, ?_⟩
  rotate_left
  · intro w hSw
    obtain ⟨x0, x1, x2, x3, x4, x5, m0, m1⟩ := hSw
    (go_simp; try with_reducible rfl)
  (try simp only [Act.put, List.setIfInBounds_toArray, List.set_cons_zero, List.set_cons_succ])
  refine take_at 17 (by kernel_rfl) (by kernel_rfl) (by kernel_rfl) (fun _ _ d _ _ h => by cases d <;> exact h) ⟨_, rfl⟩ (by assumption) (fun o ho => ?_)
  simp only [List.getElem?_toArray, List.getElem?_cons_succ, List.getElem?_cons_zero, Option.some.injEq] at ho
  subst ho
  refine ⟨?_, ⟨by rfl, ?_⟩, ?_⟩
  rotate_left
  · intro w hSw
    obtain ⟨x0, x1, x2, x3, x4, x5, m0, m1⟩ := hSw
    (go_simp; try with_reducible rfl)
  (try simp only [Act.put, List.setIfInBounds_toArray, List.set_cons_zero, List.set_cons_succ])
  refine wpAnyH_ready (rs := [18]) (by kernel_rfl) (by simp) ?_
  refine ready_at 18 ⟨_, rfl⟩ (fun o ho K hK => ?_) AllReadyH.nil
  simp only [List.getElem?_toArray, List.getElem?_cons_succ, List.getElem?_cons_zero, Option.some.injEq] at ho
  subst ho
  go_simp
  go_at_call 24
  refine (size_kn _ _ _ (HI.out.below hV3)).mono ?_
  rintro e w4 ⟨rfl, hb4⟩
  have hV4 := below_on hV3 hb4
  clear hb4
  refine hK.out _ _ ?_ (fun hHeld2 => ?_)
  · obtain ⟨x0, x1, x2, x3, x4, x5⟩ := (ps.below hV4).six
    obtain ⟨_, _, m0, m1⟩ := (pm.below hV4).facts
    exact ⟨x0, x1, x2, x3, x4, x5, m0, m1⟩
  replace hHeld := hHeld2
  clear hK K hHeld2
  (try simp only [List.setIfInBounds_toArray, List.set_cons_zero, List.set_cons_succ])
  refine take_at 19 (by kernel_rfl) (by kernel_rfl) (by kernel_rfl) (fun _ _ d _ _ h => by cases d <;> exact h) ⟨_, rfl⟩ (by assumption) (fun o ho => ?_)
  simp only [List.getElem?_toArray, List.getElem?_cons_succ, List.getElem?_cons_zero, Option.some.injEq] at ho
  subst ho
  refine ⟨?_, ⟨by rfl, ?_⟩, ?_⟩
  rotate_left
  · intro w hSw
    obtain ⟨x0, x1, x2, x3, x4, x5, m0, m1⟩ := hSw
    (go_simp; try with_reducible rfl)
  (try simp only [Act.put, List.setIfInBounds_toArray, List.set_cons_zero, List.set_cons_succ])
  refine take_at 20 (by kernel_rfl) (by kernel_rfl) (by kernel_rfl) (fun _ _ d _ _ h => by cases d <;> exact h) ⟨_, rfl⟩ (by assumption) (fun o ho => ?_)
  simp only [List.getElem?_toArray, List.getElem?_cons_succ, List.getElem?_cons_zero, Option.some.injEq] at ho
  subst ho
  refine ⟨?_, ⟨by rfl, ?_⟩, ?_⟩
  rotate_left
  · intro w hSw
    obtain ⟨x0, x1, x2, x3, x4, x5, m0, m1⟩ := hSw
    (go_simp; try with_reducible rfl)
  (try simp only [Act.put, List.setIfInBounds_toArray, List.set_cons_zero, List.set_cons_succ])
  refine take_at 21 (by kernel_rfl) (by kernel_rfl) (by kernel_rfl) (fun _ _ d _ _ h => by cases d <;> exact h) ⟨_, rfl⟩ (by assumption) (fun o ho => ?_)
  simp only [List.getElem?_toArray, List.getElem?_cons_succ, List.getElem?_cons_zero, Option.some.injEq] at ho
  subst ho
  refine ⟨?_, ⟨by rfl, ?_⟩, ?_⟩
  rotate_left
  · intro w hSw
    obtain ⟨x0, x1, x2, x3, x4, x5, m0, m1⟩ := hSw
    (go_simp; try with_reducible rfl)
  (try simp only [Act.put, List.setIfInBounds_toArray, List.set_cons_zero, List.set_cons_succ])
  refine take_at 22 (by kernel_rfl) (by kernel_rfl) (by kernel_rfl) (fun _ _ d _ _ h => by cases d <;> exact h) ⟨_, rfl⟩ (by assumption) (fun o ho => ?_)
  simp only [List.getElem?_toArray, List.getElem?_cons_succ, List.getElem?_cons_zero, Option.some.injEq] at ho
  subst ho
  refine ⟨?_, ⟨by rfl, ?_⟩, ?_⟩
  rotate_left
  · intro w hSw
    obtain ⟨x0, x1, x2, x3, x4, x5, m0, m1⟩ := hSw
    (go_simp; try with_reducible rfl)
  (try simp only [Act.put, List.setIfInBounds_toArray, List.set_cons_zero, List.set_cons_succ])
  refine wpAnyH_ready (rs := [23]) (by kernel_rfl) (by simp) ?_
  refine ready_at 23 ⟨_, rfl⟩ (fun o ho K hK => ?_) AllReadyH.nil
  simp only [List.getElem?_toArray, List.getElem?_cons_succ, List.getElem?_cons_zero, Option.some.injEq] at ho
  subst ho
  go_simp
  go_at_call 29
  refine (free_kn _ _ _ (HI.out.below hV4)).mono ?_
  rintro e w5 ⟨F1, f1, rfl, hb5⟩
  have hV5 := below_on hV4 hb5
  clear hb5
  refine hK.out _ _ ?_ (fun hHeld2 => ?_)
  · obtain ⟨x0, x1, x2, x3, x4, x5⟩ := (ps.below hV5).six
    obtain ⟨_, _, m0, m1⟩ := (pm.below hV5).facts
    exact ⟨x0, x1, x2, x3, x4, x5, m0, m1⟩
  replace hHeld := hHeld2
  clear hK K hHeld2
  (try simp only [List.setIfInBounds_toArray, List.set_cons_zero, List.set_cons_succ])
  refine take_at 24 (by kernel_rfl) (by kernel_rfl) (by kernel_rfl) (fun _ _ d _ _ h => by cases d <;> exact h) ⟨_, rfl⟩ (by assumption) (fun o ho => ?_)
  simp only [List.getElem?_toArray, List.getElem?_cons_succ, List.getElem?_cons_zero, Option.some.injEq] at ho
  subst ho
  refine ⟨?_, ⟨by rfl, ?_⟩, ?_⟩
  rotate_left
  · intro w hSw
    obtain ⟨x0, x1, x2, x3, x4, x5, m0, m1⟩ := hSw
    (go_simp; try with_reducible rfl)
  (try simp only [Act.put, List.setIfInBounds_toArray, List.set_cons_zero, List.set_cons_succ])
  refine take_at 25 (by kernel_rfl) (by kernel_rfl) (by kernel_rfl) (fun _ _ d _ _ h => by cases d <;> exact h) ⟨_, rfl⟩ (by assumption) (fun o ho => ?_)
  simp only [List.getElem?_toArray, List.getElem?_cons_succ, List.getElem?_cons_zero, Option.some.injEq] at ho
  subst ho
  refine ⟨?_, ⟨by rfl, ?_⟩, ?_⟩
  rotate_left
  · intro w hSw
    obtain ⟨x0, x1, x2, x3, x4, x5, m0, m1⟩ := hSw
    (go_simp; try with_reducible rfl)
  (try simp only [Act.put, List.setIfInBounds_toArray, List.set_cons_zero, List.set_cons_succ])
  refine take_at 26 (by kernel_rfl) (by kernel_rfl) (by kernel_rfl) (fun _ _ d _ _ h => by cases d <;> exact h) ⟨_, rfl⟩ (by assumption) (fun o ho => ?_)
  simp only [List.getElem?_toArray, List.getElem?_cons_succ, List.getElem?_cons_zero, Option.some.injEq] at ho
  subst ho
  refine ⟨?_, ⟨by rfl, ?_⟩, ?_⟩
  rotate_left
  · intro w hSw
    obtain ⟨x0, x1, x2, x3, x4, x5, m0, m1⟩ := hSw
    (go_simp; try with_reducible rfl)
  (try simp only [Act.put, List.setIfInBounds_toArray, List.set_cons_zero, List.set_cons_succ])
  refine take_at 27 (by kernel_rfl) (by kernel_rfl) (by kernel_rfl) (fun _ _ d _ _ h => by cases d <;> exact h) ⟨_, rfl⟩ (by assumption) (fun o ho => ?_)
  simp only [List.getElem?_toArray, List.getElem?_cons_succ, List.getElem?_cons_zero, Option.some.injEq] at ho
  subst ho
  refine ⟨?_, ⟨by rfl, ?_⟩, ?_⟩
  rotate_left
  · intro w hSw
    obtain ⟨x0, x1, x2, x3, x4, x5, m0, m1⟩ := hSw
    (go_simp; try with_reducible rfl)
  (try simp only [Act.put, List.setIfInBounds_toArray, List.set_cons_zero, List.set_cons_succ])
  refine take_at 28 (by kernel_rfl) (by kernel_rfl) (by kernel_rfl) (fun _ _ d _ _ h => by cases d <;> exact h) ⟨_, rfl⟩ (by assumption) (fun o ho => ?_)
  simp only [List.getElem?_toArray, List.getElem?_cons_succ, List.getElem?_cons_zero, Option.some.injEq] at ho
  subst ho
  refine ⟨?_, ⟨by rfl, ?_⟩, ?_⟩
  rotate_left
  · intro w hSw
    obtain ⟨x0, x1, x2, x3, x4, x5, m0, m1⟩ := hSw
    (go_simp; try with_reducible rfl)
  (try simp only [Act.put, List.setIfInBounds_toArray, List.set_cons_zero, List.set_cons_succ])
  refine take_at 29 (by kernel_rfl) (by kernel_rfl) (by kernel_rfl) (fun _ _ d _ _ h => by cases d <;> exact h) ⟨_, rfl⟩ (by assumption) (fun o ho => ?_)
  simp only [List.getElem?_toArray, List.getElem?_cons_succ, List.getElem?_cons_zero, Option.some.injEq] at ho
  subst ho
  refine ⟨?_, ⟨by rfl, ?_⟩, ?_⟩
  rotate_left
  · intro w hSw
    obtain ⟨x0, x1, x2, x3, x4, x5, m0, m1⟩ := hSw
    (go_simp; try with_reducible rfl)
  (try simp only [Act.put, List.setIfInBounds_toArray, List.set_cons_zero, List.set_cons_succ])
  refine wpAnyH_ready (rs := [30]) (by kernel_rfl) (by simp) ?_
  refine ready_at 30 ⟨_, rfl⟩ (fun o ho K hK => ?_) AllReadyH.nil
  simp only [List.getElem?_toArray, List.getElem?_cons_succ, List.getElem?_cons_zero, Option.some.injEq] at ho
  subst ho
  go_simp
  go_at_call 22
  refine (same_kn _ _ _ knT knT _ _ kn_bulk kn_bulk (T.sm_self _) (HI.out.below hV5) (HI.out.below hV5)).mono ?_
  rintro e w6 ⟨rfl, hb6⟩
  have hV6 := below_on hV5 hb6
  clear hb6
  refine hK.out _ _ ?_ (fun hHeld2 => ?_)
  · obtain ⟨x0, x1, x2, x3, x4, x5⟩ := (ps.below hV6).six
    obtain ⟨_, _, m0, m1⟩ := (pm.below hV6).facts
    exact ⟨x0, x1, x2, x3, x4, x5, m0, m1⟩
  replace hHeld := hHeld2
  clear hK K hHeld2
  (try simp only [List.setIfInBounds_toArray, List.set_cons_zero, List.set_cons_succ])
  refine take_at 31 (by kernel_rfl) (by kernel_rfl) (by kernel_rfl) (fun _ _ d _ _ h => by cases d <;> exact h) ⟨_, rfl⟩ (by assumption) (fun o ho => ?_)
  simp only [List.getElem?_toArray, List.getElem?_cons_succ, List.getElem?_cons_zero, Option.some.injEq] at ho
  subst ho
  refine ⟨?_, ⟨by rfl, ?_⟩, ?_⟩
  rotate_left
  · intro w hSw
    obtain ⟨x0, x1, x2, x3, x4, x5, m0, m1⟩ := hSw
    (go_simp; try with_reducible rfl)
  (try simp only [Act.put, List.setIfInBounds_toArray, List.set_cons_zero, List.set_cons_succ])
  refine take_at 32 (by kernel_rfl) (by kernel_rfl) (by kernel_rfl) (fun _ _ d _ _ h => by cases d <;> exact h) ⟨_, rfl⟩ (by assumption) (fun o ho => ?_)
  simp only [List.getElem?_toArray, List.getElem?_cons_succ, List.getElem?_cons_zero, Option.some.injEq] at ho
  subst ho
  refine ⟨?_, ⟨by rfl, ?_⟩, ?_⟩
  rotate_left
  · intro w hSw
    obtain ⟨x0, x1, x2, x3, x4, x5, m0, m1⟩ := hSw
    (go_simp; try with_reducible rfl)
  (try simp only [Act.put, List.setIfInBounds_toArray, List.set_cons_zero, List.set_cons_succ])
  refine take_at 33 (by kernel_rfl) (by kernel_rfl) (by kernel_rfl) (fun _ _ d _ _ h => by cases d <;> exact h) ⟨_, rfl⟩ (by assumption) (fun o ho => ?_)
  simp only [List.getElem?_toArray, List.getElem?_cons_succ, List.getElem?_cons_zero, Option.some.injEq] at ho
  subst ho
  refine ⟨?_, ⟨by rfl, ?_⟩, ?_⟩
  rotate_left
  · intro w hSw
    obtain ⟨x0, x1, x2, x3, x4, x5, m0, m1⟩ := hSw
    (go_simp; try with_reducible rfl)
  (try simp only [Act.put, List.setIfInBounds_toArray, List.set_cons_zero, List.set_cons_succ])
  refine take_at 35 (by kernel_rfl) (by kernel_rfl) (by kernel_rfl) (fun _ _ d _ _ h => by cases d <;> exact h) ⟨_, rfl⟩ (by assumption) (fun o ho => ?_)
  simp only [List.getElem?_toArray, List.getElem?_cons_succ, List.getElem?_cons_zero, Option.some.injEq] at ho
  subst ho
  refine ⟨?_, ⟨by rfl, ?_⟩, ?_⟩
  rotate_left
  · intro w hSw
    obtain ⟨x0, x1, x2, x3, x4, x5, m0, m1⟩ := hSw
    (go_simp; try with_reducible rfl)
  (try simp only [Act.put, List.setIfInBounds_toArray, List.set_cons_zero, List.set_cons_succ])
  refine wpAnyH_ready (rs := [34]) (by kernel_rfl) (by simp) ?_
  refine ready_at 34 ⟨_, rfl⟩ (fun o ho K hK => ?_) AllReadyH.nil
  simp only [List.getElem?_toArray, List.getElem?_cons_succ, List.getElem?_cons_zero, Option.some.injEq] at ho
  subst ho
  go_simp
  go_at_call 27
  refine (copy_kn _ _ _ (HI.out.below hV6)).mono ?_
  rintro e w7 ⟨u, rfl, hu, hb7⟩
  have hV7 := below_on hV6 hb7
  clear hb7
  refine hK.out _ _ ?_ (fun hHeld2 => ?_)
  · obtain ⟨x0, x1, x2, x3, x4, x5⟩ := (ps.below hV7).six
    obtain ⟨_, _, m0, m1⟩ := (pm.below hV7).facts
    exact ⟨x0, x1, x2, x3, x4, x5, m0, m1⟩
  replace hHeld := hHeld2
  clear hK K hHeld2
  (try simp only [List.setIfInBounds_toArray, List.set_cons_zero, List.set_cons_succ])
  refine wpAnyH_ready (rs := [36]) (by kernel_rfl) (by simp) ?_
  refine ready_at 36 ⟨_, rfl⟩ (fun o ho K hK => ?_) AllReadyH.nil
  simp only [List.getElem?_toArray, List.getElem?_cons_succ, List.getElem?_cons_zero, Option.some.injEq] at ho
  subst ho
  go_simp
  go_at_call 22
  refine (same_kn _ _ _ knT.cp knT _ _ kn_cpb kn_bulk kn_cp hu (HI.out.below hV7)).mono ?_
  rintro e w8 ⟨rfl, hb8⟩
  have hV8 := below_on hV7 hb8
  clear hb8
  refine hK.out _ _ ?_ (fun hHeld2 => ?_)
  · obtain ⟨x0, x1, x2, x3, x4, x5⟩ := (ps.below hV8).six
    obtain ⟨_, _, m0, m1⟩ := (pm.below hV8).facts
    exact ⟨x0, x1, x2, x3, x4, x5, m0, m1⟩
  replace hHeld := hHeld2
  clear hK K hHeld2
  (try simp only [List.setIfInBounds_toArray, List.set_cons_zero, List.set_cons_succ])
  refine take_at 37 (by kernel_rfl) (by kernel_rfl) (by kernel_rfl) (fun _ _ d _ _ h => by cases d <;> exact h) ⟨_, rfl⟩ (by assumption) (fun o ho => ?_)
  simp only [List.getElem?_toArray, List.getElem?_cons_succ, List.getElem?_cons_zero, Option.some.injEq] at ho
  subst ho
  refine ⟨?_, ⟨by rfl, ?_⟩, ?_⟩
  rotate_left
  · intro w hSw
    obtain ⟨x0, x1, x2, x3, x4, x5, m0, m1⟩ := hSw
    (go_simp; try with_reducible rfl)
  (try simp only [Act.put, List.setIfInBounds_toArray, List.set_cons_zero, List.set_cons_succ])
  refine take_at 38 (by kernel_rfl) (by kernel_rfl) (by kernel_rfl) (fun _ _ d _ _ h => by cases d <;> exact h) ⟨_, rfl⟩ (by assumption) (fun o ho => ?_)
  simp only [List.getElem?_toArray, List.getElem?_cons_succ, List.getElem?_cons_zero, Option.some.injEq] at ho
  subst ho
  refine ⟨?_, ⟨by rfl, ?_⟩, ?_⟩
  rotate_left
  · intro w hSw
    obtain ⟨x0, x1, x2, x3, x4, x5, m0, m1⟩ := hSw
    (go_simp; try with_reducible rfl)
  (try simp only [Act.put, List.setIfInBounds_toArray, List.set_cons_zero])
  refine wpAnyH_done (by kernel_rfl) ?_ _
  go_wp2
  go_ret
  exact ⟨rfl, below_on hbw hV8⟩
end Go.Proofs.YthiadenmljbdaaaGreatDoor
end

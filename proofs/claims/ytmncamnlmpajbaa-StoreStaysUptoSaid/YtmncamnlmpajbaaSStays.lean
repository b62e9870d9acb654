/-
  The walk of StoreStays.
-/
import Derived.Test.YtmncamnlmpajbaaSPlain
import Derived.Deep.CutRange
import Derived.BigQuiet
namespace Go.Proofs.Ytmncamnlmpajbaa
open Go.RowKit Go.Maps Go.Op

theorem tur_cell {w w' : World} {P M : Nat} {p : Addr} {v : Value} (h : w.cell? p = some v) (hT : Tur w w' P M) (hP : w.heap.size ≤ P) (hM : w.heap.size ≤ M) : w'.cell? p = some v := by
  have hlt := World.block_lt_of_cell? w p h
  exact (World.cell?_of_block (a := p) (hT.block _ hlt (by omega) (by omega))).trans h
theorem StepAt.tur {w w' : World} {P M b o : Nat} {x : Stp} (h : StepAt w (fun b => b < w.heap.size) b o x) (hT : Tur w w' P M) (hP : w.heap.size ≤ P) (hM : w.heap.size ≤ M) : StepAt w' (fun b => b < w.heap.size) b o x := by
  obtain ⟨h1, h2, ⟨A1, c1, A2, c2, A3, c3, ⟨y0, y1, y2, y3, y4, y5⟩, hin⟩, h4, h5⟩ := h
  exact ⟨tur_cell h1 hT hP hM, tur_cell h2 hT hP hM, ⟨A1, c1, A2, c2, A3, c3, ⟨tur_cell y0 hT hP hM, tur_cell y1 hT hP hM, tur_cell y2 hT hP hM, tur_cell y3 hT hP hM, tur_cell y4 hT hP hM, tur_cell y5 hT hP hM⟩, Tur.In hin hT (by omega) (by omega)⟩, h4, h5⟩
theorem StoreAt.gt_bulk {w : World} {P M : Nat} {R : Nat → Prop} {L : Kl} (h : StoreAt w P M R L) (nm : ByteArray) : (gt nm L).bulk ≤ 1048576 := by
  obtain ⟨_, _, ⟨D, _, hr⟩, _, _, hbk, _⟩ := h
  unfold gt
  cases hg : lget nm L with
  | none => decide
  | some t =>
    obtain ⟨c, _, _, hin⟩ := hr.here hg
    exact Nat.le_trans hin.cp_bulk (hbk _ (lget_mem hg)).1
theorem Blk.eight {w : World} {b : Nat} {t : TypeId} {a0 a1 a2 a3 a4 a5 a6 a7 : Value} (h : Blk w b t #[a0, a1, a2, a3, a4, a5, a6, a7]) : w.cell? ⟨b, 0, none⟩ = some a0 ∧ w.cell? ⟨b, 1, none⟩ = some a1 ∧ w.cell? ⟨b, 2, none⟩ = some a2 ∧ w.cell? ⟨b, 3, none⟩ = some a3 ∧ w.cell? ⟨b, 4, none⟩ = some a4 ∧ w.cell? ⟨b, 5, none⟩ = some a5 ∧ w.cell? ⟨b, 6, none⟩ = some a6 ∧ w.cell? ⟨b, 7, none⟩ = some a7 :=
  ⟨h.cell _, h.cell _, h.cell _, h.cell _, h.cell _, h.cell _, h.cell _, h.cell _⟩
theorem Blk.tur {w w' : World} {P M b : Nat} {t : TypeId} {cs : Array Value} (h : Blk w b t cs) (hT : Tur w w' P M) (h1 : b ≠ P) (h2 : b ≠ M) : Blk w' b t cs := (hT.block b h.lt h1 h2).trans h
theorem names_c {w : World} {P M : Nat} {R : Nat → Prop} {L : Kl} (h : StoreAt w P M R L) {ll : Nat} (hl : L.length = ll) : Calls Try.prog 18 #[.pointer (some ⟨P, 0, none⟩)] w fun e w' => ∃ A c, e = .returned (.slice A ll c) ∧ NRow w' A w.heap.size w'.heap.size (lnames L) ∧ Below w.heap.size w w' := by
  subst hl
  exact callsIn_wide.1 (names_in 1 h)
theorem nodes_c {w : World} {P M : Nat} {R : Nat → Prop} {L : Kl} (h : StoreAt w P M R L) {tl : Nat} (hl : total L = tl) : Calls Try.prog 12 #[.pointer (some ⟨P, 0, none⟩)] w fun e w' => e = .returned (.int .i64 (tl : Nat)) ∧ w' = w := by
  subst hl
  exact nodes_s h
theorem len_c {w : World} {P M : Nat} {R : Nat → Prop} {L : Kl} (h : StoreAt w P M R L) {ll : Nat} (hl : L.length = ll) : Calls Try.prog 11 #[.pointer (some ⟨P, 0, none⟩)] w fun e w' => e = .returned (.int .i64 (ll : Nat)) ∧ w' = w := by
  subst hl
  exact len_s h
theorem get_c {w : World} {P M : Nat} {R : Nat → Prop} {L : Kl} (h : StoreAt w P M R L) (nm : ByteArray) (hnm : nm.size ≤ 1048576) {g : T} {q : Bool} (hg : gt nm L = g) (hq : (lget nm L).isSome = q) :
    Calls Try.prog 19 #[.pointer (some ⟨P, 0, none⟩), .string nm] w fun e w' => ∃ A1 c1 A2 c2 A3 c3, e = .returned (.tuple #[tv g.k g.nm A1 g.ns.length c1 g.ng A2 g.mg.length c2 A3 g.ks.length c3, .bool q]) ∧
      T.In w' (fun b => w.heap.size ≤ b) g (tv g.k g.nm A1 g.ns.length c1 g.ng A2 g.mg.length c2 A3 g.ks.length c3) ∧ Below w.heap.size w w' := by
  subst hg; subst hq
  exact get_s h nm hnm
theorem put_c {w : World} {P M : Nat} {R : Nat → Prop} {L : Kl} (h : StoreAt w P M R L) (nm : ByteArray) (hnm : nm.size ≤ 1048576) (t : T) (v : Value) (R0 : Nat → Prop) (hbt : t.bulk ≤ 1048576) (ht : T.In w R0 t v) (hRn : ∀ b, w.heap.size ≤ b → R b) {E : Int} {L1 : Kl} (hE : putE nm t L = E) (hL : putL nm t L = L1) :
    Calls Try.prog 20 #[.pointer (some ⟨P, 0, none⟩), .string nm, v] w fun e w' => e = .returned (.int .i64 E) ∧ StoreAt w' P M R L1 ∧ Tur w w' P M := by
  subst hE; subst hL
  exact put_s h nm hnm t v R0 hbt ht hRn
set_option maxRecDepth 100000 in
set_option maxHeartbeats 12800000 in
theorem stays_walk (w : World) (v : Value) (xs : List Stp) (h : StepsIn w v xs) : Calls Try.prog 5 #[v] w fun e w' => e = .returned (.bool true) ∧ Below w.heap.size w w' := by
  obtain ⟨A, c, rfl, hcap, hlen, hx⟩ := h
  obtain ⟨n, hn⟩ : ∃ n, xs.length = n := ⟨_, rfl⟩
  rw [hn] at hcap hlen hx ⊢
  have HN := Lib.hid hn
  clear hn
  go_enter Try.func5, Try.ntmps5
  go_upto_region 4 with (first
    | (go_at_call 7; refine (new_s _).mono ?_; rintro e w1 ⟨P, M, rfl, hst, hP, hM, hP2, hM2, hb1⟩)
    | (go_at_call 9; refine (known_l _).mono ?_; rintro e w2 ⟨rfl, hb2⟩))
  have hbw := below_on hb1 hb2
  have hsz2 := hb2.size
  obtain ⟨B0, hB0⟩ : ∃ B0, w2.heap.size = B0 := ⟨_, rfl⟩
  have hs0 : StoreAt w2 P M (fun b => B0 ≤ b) [] := (hst (fun b => B0 ≤ b) (by omega) (by omega)).below hb2
  have hPB : P < B0 ∧ M < B0 := by omega
  have HXW : Hid (∀ w', Tur w2 w' P M → 0 < n → ∃ b o, A = some ⟨b, o, none⟩ ∧ ∀ i, i < n → StepAt w' (fun b => b < w.heap.size) b (o + i * 8) (xs.getD i stp0)) := Lib.hid (fun w' hT hp => by
    obtain ⟨b, o, e, hk⟩ := hx hp
    exact ⟨b, o, e, fun i hi => (hk i hi).tur ((Tur.of_below hbw).trans hT) hP hM⟩)
  have HB := Lib.hid hbw
  have HB0 := Lib.hid hB0
  have HS0 := Lib.hid hs0
  have HPM := Lib.hid (And.intro hP hM)
  clear hx hst hP hM hP2 hM2 hb1 hb2 hs0 hbw hsz2 hB0
  go_wp2_with fail
  go_loopg [4] (n + 1) (fun gk v4 wr => ∃ (i : Nat) (L : Kl), gk + i = n + 1 ∧ i ≤ n ∧ v4 = .int .i64 (i : Nat) ∧ StoreAt wr P M (fun b => B0 ≤ b) L ∧ Tur w2 wr P M)
  case atStart => exact ⟨0, [], by omega, Nat.zero_le _, rfl, HS0.out, Tur.of_below (Below.refl _ _)⟩
  case round =>
    obtain ⟨i, L, hi, hin, rfl, hst, hT⟩ := hrel
    have hszr := hT.size
    rw [HB0.out] at hszr
    by_cases hlt : i < n
    case neg =>
      have hi3 : decide (i < n) = false := decide_eq_false hlt
      obtain rfl : i = n := by omega
      go_wp2_with fail
      go_ret
      have hB := HB.out
      have hs := hB.size
      exact ⟨rfl, hT.os.trans hB.os, hT.tape.trans hB.tape, hT.output.trans hB.output, Nat.le_trans hs hT.size, fun b hlt => (hT.block b (by omega) (by have := HPM.out; omega) (by have := HPM.out; omega)).trans (hB.block b hlt)⟩
    case pos =>
      have hi3 : decide (i < n) = true := decide_eq_true hlt
      obtain ⟨b, o, rfl, hk⟩ := HXW.out wr hT (by omega)
      have hstp := hk i hlt
      obtain ⟨⟨kz, nm, t⟩, hxi⟩ : ∃ x, xs.getD i stp0 = x := ⟨_, rfl⟩
      rw [hxi] at hstp
      obtain ⟨s0, s1, ⟨A1, c1, A2, c2, A3, c3, ⟨y0, y1, y2, y3, y4, y5⟩, hkin⟩, hnm, hbt⟩ := hstp
      dsimp only at s0 s1 y0 y1 y2 y3 y4 y5 hkin hnm hbt
      have y1 : wr.cell? ⟨b, o + i * 8 + 3, none⟩ = some (.string t.nm) := y1
      have y2 : wr.cell? ⟨b, o + i * 8 + 4, none⟩ = some (.slice A1 t.ns.length c1) := y2
      have y3 : wr.cell? ⟨b, o + i * 8 + 5, none⟩ = some (.bool t.ng) := y3
      have y4 : wr.cell? ⟨b, o + i * 8 + 6, none⟩ = some (.slice A2 t.mg.length c2) := y4
      have y5 : wr.cell? ⟨b, o + i * 8 + 7, none⟩ = some (.slice A3 t.ks.length c3) := y5
      have hi0 : (0 : Int) ≤ i := by omega
      have hi1 : (i : Int) < n := by omega
      obtain ⟨ll, hll⟩ : ∃ ll, L.length = ll := ⟨_, rfl⟩
      obtain ⟨tl, htl⟩ : ∃ tl, total L = tl := ⟨_, rfl⟩
      obtain ⟨g0, hg0⟩ : ∃ g, gt nm L = g := ⟨_, rfl⟩
      obtain ⟨q0, hq0⟩ : ∃ q, (lget nm L).isSome = q := ⟨_, rfl⟩
      obtain ⟨E, hE⟩ : ∃ E, putE nm t L = E := ⟨_, rfl⟩
      obtain ⟨L1, hL1⟩ : ∃ L1, putL nm t L = L1 := ⟨_, rfl⟩
      obtain ⟨g1, hg1⟩ : ∃ g, gt nm L1 = g := ⟨_, rfl⟩
      obtain ⟨q1, hq1⟩ : ∃ q, (lget nm L1).isSome = q := ⟨_, rfl⟩
      have hg0b : g0.bulk ≤ 1048576 := by rw [← hg0]; exact hst.gt_bulk nm
      have HRI := Lib.hid hst.rising
      have HLL := Lib.hid hll
      have HTL := Lib.hid htl
      have HG0 := Lib.hid hg0
      have HQ0 := Lib.hid hq0
      have HE := Lib.hid hE
      have HL1 := Lib.hid hL1
      have HG1 := Lib.hid hg1
      have HQ1 := Lib.hid hq1
      have HT := Lib.hid hT
      clear hk hll htl hg0 hq0 hE hL1 hg1 hq1 hT hxi
      go_upto_region 8 with (fail)
      obtain ⟨W1, hW1, px, hb1⟩ := made_blk wr #[.int .i64 kz, .string nm, .int .i64 t.k, .string t.nm, .slice A1 t.ns.length c1, .bool t.ng, .slice A2 t.mg.length c2, .slice A3 t.ks.length c3] 37
      obtain ⟨Bx, hBx⟩ : ∃ b, b = wr.heap.size := ⟨_, rfl⟩
      have hgBx : wr.heap.size ≤ Bx := by omega
      rw [← hW1, ← hBx]
      rw [← hBx] at px
      clear hW1 hBx

      have hxP : Bx ≠ P := by omega
      have hxM : Bx ≠ M := by omega
      have hs1 := hb1.size
      have HST := Lib.hid (hst.below hb1)
      have HKI := Lib.hid (hkin.below hb1)
      have HT1 := Lib.hid (HT.out.below hb1)
      clear s0 s1 y0 y1 y2 y3 y4 y5 hst hkin hb1 HT
      go_upto_region 10 with (first
        | (go_at_call 18; refine (names_c HST.out HLL.out).mono ?_; rintro e w3 ⟨N1, m1, rfl, _, hb3⟩; have HST3 := Lib.hid (HST.out.below hb3))
        | (go_at_call 12; refine (nodes_c HST3.out HTL.out).mono ?_; rintro e w3' ⟨rfl, rfl⟩))
      have px3 := px.below hb3
      have hs3 := hb3.size
      obtain ⟨_, x1, _⟩ := px3.eight
      go_upto_region 11 with (go_at_call 19; refine (get_c HST3.out nm hnm HG0.out HQ0.out).mono ?_; rintro e w4 ⟨D1, d1, D2, d2, D3, d3, rfl, hio, hb4⟩)
      obtain ⟨W5, hW5, po, hb5⟩ := made_blk w4 #[.int .i64 g0.k, .string g0.nm, .slice D1 g0.ns.length d1, .bool g0.ng, .slice D2 g0.mg.length d2, .slice D3 g0.ks.length d3] 35
      obtain ⟨Bo, hBo⟩ : ∃ b, b = w4.heap.size := ⟨_, rfl⟩
      have hgBo : w4.heap.size ≤ Bo := by omega
      rw [← hW5, ← hBo]
      rw [← hBo] at po
      clear hW5 hBo

      have hs4 := hb4.size
      have hs5 := hb5.size
      have hbA := below_on hb3 (below_on hb4 hb5)
      have px5 := px.below hbA
      have HST5 := Lib.hid (HST.out.below hbA)
      have HKI5 := Lib.hid (HKI.out.below hbA)
      have HIO := Lib.hid (hio.below hb5)
      have HT5 := Lib.hid (HT1.out.below hbA)
      have hoP : Bo ≠ P := by omega
      have hoM : Bo ≠ M := by omega
      clear x1 px3 hio hb3 hb4 hb5 hbA px HST3 HST HKI HT1
      obtain ⟨_, x1, x2, x3, x4, x5, x6, x7⟩ := px5.eight
      go_upto_region 12 with (go_at_call 20; refine (put_c HST5.out nm hnm t _ _ hbt HKI5.out (fun b hb => by omega) HE.out HL1.out).mono ?_; rintro e w6 ⟨rfl, hst6, hT6⟩)
      have hs6 := hT6.size
      have px6 := px5.tur hT6 hxP hxM
      have po6 := po.tur hT6 hoP hoM
      have HIO6 := Lib.hid (Tur.In HIO.out hT6 (by omega) (by omega))
      have HKI6 := Lib.hid (Tur.In HKI5.out hT6 (by have := HPM.out; omega) (by have := HPM.out; omega))
      have HT6 := Lib.hid (HT5.out.trans hT6)
      have HST6 := Lib.hid hst6
      clear x1 x2 x3 x4 x5 x6 x7 hst6 hT6 px5 po HIO HKI5 HT5 HST5
      obtain ⟨_, x1, _⟩ := px6.eight
      go_upto_region 13 with (go_at_call 19; refine (get_c HST6.out nm hnm HG1.out HQ1.out).mono ?_; rintro e w7 ⟨E1, e1, E2, e2, E3, e3, rfl, hit, hb7⟩)
      obtain ⟨W8, hW8, pt, hb8⟩ := made_blk w7 #[.int .i64 g1.k, .string g1.nm, .slice E1 g1.ns.length e1, .bool g1.ng, .slice E2 g1.mg.length e2, .slice E3 g1.ks.length e3] 35
      obtain ⟨Bt, hBt⟩ : ∃ b, b = w7.heap.size := ⟨_, rfl⟩
      have hgBt : w7.heap.size ≤ Bt := by omega
      rw [← hW8, ← hBt]
      rw [← hBt] at pt
      clear hW8 hBt

      have hs7 := hb7.size
      have hs8 := hb8.size
      have hbB := below_on hb7 hb8
      have px8 := px6.below hbB
      have po8 := po6.below hbB
      have HSF := Lib.hid (fun (w' : World) (hb : Below W8.heap.size W8 w') => (HST6.out.below hbB).below hb)
      have HIO8 := Lib.hid (HIO6.out.below hbB)
      have HKI8 := Lib.hid (HKI6.out.below hbB)
      have HIT8 := Lib.hid (hit.below hb8)
      have HT8 := Lib.hid (HT6.out.below hbB)
      have hg1b : g1.bulk ≤ 1048576 := by rw [← HG1.out]; exact HST6.out.gt_bulk nm
      clear x1 hit hb7 hb8 hbB px6 po6 HIO6 HKI6 HT6 HST6
      obtain ⟨x0, x1, x2, x3, x4, x5, x6, x7⟩ := px8.eight
      obtain ⟨o0, o1, o2, o3, o4, o5⟩ := po8.six
      obtain ⟨t0', t1, t2, t3, t4, t5⟩ := pt.six
      go_upto_if 62 with (fail)
      go_cut [62] from 170 (fun _ wc => Below W8.heap.size W8 wc)
      case first =>
        by_cases hE0 : E = 0
        · have e62 : (E == 0) = true := by simp [hE0]
          obtain ⟨hgp, hqp⟩ := gt_put HRI.out (by rw [HE.out]; exact hE0)
          rw [HL1.out, HG1.out] at hgp
          rw [HL1.out, HQ1.out] at hqp
          have HCP := Lib.hid (show g1.cp = t.cp by rw [hgp, T.cp_cp])
          subst hqp
          clear hE0 hgp
          go_wp2_with (go_at_call 21; refine (same_t 1048576 g1 t _ _ _ _ _ hg1b hbt (by omega) HCP.out HIT8.out HKI8.out).mono ?_; rintro e w9 ⟨rfl, hb9⟩)
          go_meet
          exact hb9
        · have e62 : (E == 0) = false := by simp [hE0]
          have hL : L1 = L := by rw [← HL1.out, putL_no (by rw [HE.out]; exact hE0)]
          have hg : g1 = g0 := by rw [← HG1.out, hL, HG0.out]
          have hq : q1 = q0 := by rw [← HQ1.out, hL, HQ0.out]
          have HLB := Lib.hid hL
          subst hg
          subst hq
          clear hE0 hL
          go_wp2_with (first
            | (go_at_call 22; refine (exact_t 1048576 g1 g1 _ _ _ _ _ hg1b hg1b (by omega) rfl HIT8.out HIO8.out).mono ?_; rintro e w9 ⟨rfl, hb9⟩)
            | (go_at_call 12; refine (nodes_c (HSF.out _ hb9) (tl := tl) (by rw [HLB.out]; exact HTL.out)).mono ?_; rintro e w9' ⟨rfl, rfl⟩)
            | (go_at_call 18; refine (names_c (HSF.out _ hb9) (ll := ll) (by rw [HLB.out]; exact HLL.out)).mono ?_; rintro e w10 ⟨N2, m2, rfl, _, hb10⟩))
          go_meet
          exact below_on hb9 hb10
      case rest =>
        clear x0 x1 x2 x3 x4 x5 x6 x7 o0 o1 o2 o3 o4 o5 t0' t1 t2 t3 t4 t5
        have px9 := px8.below hcut
        have HST9 := Lib.hid (HSF.out _ hcut)
        have HT9 := Lib.hid (HT8.out.below hcut)
        have hs9 := hcut.size
        clear hcut px8 po8 pt HSF HIO8 HKI8 HIT8 HT8
        obtain ⟨x0, x1, _⟩ := px9.eight
        go_upto_region 18 with (fail)
        go_cut [101] from 170 (fun v101 wd => ∃ d : Bool, v101 = .bool d ∧ (d = true → q1 = true) ∧ wd = wc)
        case first =>
          obtain ⟨z, hz⟩ : ∃ z, pk kz 5 = z := ⟨_, rfl⟩
          have HZ := Lib.hid hz
          clear hz
          obtain ⟨d, hd⟩ : ∃ d, (z == 0) = d := ⟨_, rfl⟩
          cases d <;> cases q1
          all_goals
            go_wp2_with (go_at_call 17; refine (pick_l _ kz 5 (by decide)).mono ?_; rw [HZ.out]; rintro e w11 ⟨rfl, rfl⟩)
            go_meet
            exact ⟨_, rfl, by simp, rfl⟩
        case rest =>
          obtain ⟨d, rfl, hd, rfl⟩ := hcut
          have HD := Lib.hid hd
          clear hd
          go_upto_if 101 with (fail)
          go_cut [101] from 170 (fun _ wd => ∃ L2, StoreAt wd P M (fun b => B0 ≤ b) L2 ∧ Tur w2 wd P M)
          case first =>
            cases d
            · go_wp2_with fail
              go_meet
              exact ⟨L1, HST9.out, HT9.out⟩
            · have hq1 := HD.out rfl
              have HDC : Hid (∀ w0, StoreAt w0 P M (fun b => B0 ≤ b) L1 → Calls Try.prog 23 #[.pointer (some ⟨P, 0, none⟩), .string nm] w0 fun e w' => e = .returned (.int .i64 0) ∧ StoreAt w' P M (fun b => B0 ≤ b) (ldel nm L1) ∧ Tur w0 w' P M) := Lib.hid (fun w0 hs => by
                have := drop_s hs nm hnm
                rw [show dropE nm L1 = 0 by unfold dropE; rw [HQ1.out, hq1]; rfl] at this
                exact this)
              clear hq1
              go_wp2_with (first
                | (go_at_call 23; refine (HDC.out _ HST9.out).mono ?_; rintro e w12 ⟨rfl, hst12, hT12⟩; have x1' := (px9.tur hT12 hxP hxM).eight.2.1)
                | (go_at_call 19; refine (get_c hst12 nm hnm (g := t0) (q := false) (by unfold gt; rw [lget_ldel]) (by rw [lget_ldel]; rfl)).mono ?_; rintro e w13 ⟨F1, f1, F2, f2, F3, f3, rfl, _, hb13⟩))
              go_meet
              exact ⟨ldel nm L1, (hst12.below hb13).below (below_alloc1 _ _), ((HT9.out.trans hT12).below hb13).below (below_alloc1 _ _)⟩
          case rest =>
            clear x0 x1 px9 HST9 HT9
            obtain ⟨L2, hst2, hT2⟩ := hcut
            obtain ⟨m, hm⟩ : ∃ m, L2.length = m := ⟨_, rfl⟩
            have hm40 : m ≤ 40 := by rw [← hm]; exact hst2.2.2.2.2.1
            have htot : total L2 ≤ 3000 := hst2.2.2.2.1
            have hris := hst2.rising
            have hbk := hst2.2.2.2.2.2.1
            obtain ⟨tt, htt⟩ : ∃ tt, total L2 = tt := ⟨_, rfl⟩
            rw [htt] at htot
            have HM := Lib.hid hm
            have HTT := Lib.hid htt
            have HRS := Lib.hid hris
            have HBK := Lib.hid hbk
            have HST2 := Lib.hid hst2
            have HT2 := Lib.hid hT2
            have hll2 : (lnames L2).length = m := by simp [lnames, hm]
            have HLN := Lib.hid hll2
            clear hm hris hbk hst2 hT2 htt hll2
            go_wp2_with (go_at_call 18; refine (names_c HST2.out HM.out).mono ?_; rintro e w14 ⟨N3, m3, rfl, hrow, hb14⟩)
            have HST4 := Lib.hid (HST2.out.below hb14)
            have HT4 := Lib.hid (HT2.out.below hb14)
            have HROW := Lib.hid hrow
            clear hrow hb14 HST2 HT2
            go_loopg [15, 17] (m + 1) (fun gj v15 v17 wr => ∃ k : Nat, gj + k = m + 1 ∧ k ≤ m ∧ v17 = .int .i64 (k : Nat) ∧ v15 = .int .i64 (total (L2.take k) : Nat) ∧ Below w14.heap.size w14 wr)
            case atStart => exact ⟨0, by omega, Nat.zero_le _, rfl, rfl, Below.refl _ _⟩
            case round =>
              obtain ⟨k, hk, hkm, rfl, rfl, hbk⟩ := hrel
              by_cases hklt : k < m
              case neg =>
                have hk3 : decide (k < m) = false := decide_eq_false hklt
                obtain rfl : k = m := by omega
                have htk : total (L2.take k) = tt := by rw [← HM.out, List.take_length]; exact HTT.out
                rw [htk]
                have HSK := Lib.hid (HST4.out.below hbk)
                have HTK := Lib.hid (HT4.out.below hbk)
                have d1 : decide ((tt : Int) > 3000) = false := decide_eq_false (by omega)
                have d2 : decide (3000 < (tt : Int)) = false := decide_eq_false (by omega)
                have d3 : decide (3000 < tt) = false := decide_eq_false (by omega)
                have d4 : decide ((k : Int) > 40) = false := decide_eq_false (by omega)
                have d5 : decide (40 < (k : Int)) = false := decide_eq_false (by omega)
                have d6 : decide (40 < k) = false := decide_eq_false (by omega)
                clear htk hbk
                go_wp2_with (first
                  | (go_at_call 12; refine (nodes_c HSK.out HTT.out).mono ?_; rintro e w15 ⟨rfl, e15⟩; subst e15)
                  | (go_at_call 11; refine (len_c HSK.out HM.out).mono ?_; rintro e w16 ⟨rfl, e16⟩; subst e16))
                go_roundg (n - i)
                case measure => omega
                case rel => exact ⟨i + 1, L2, by omega, by omega, by go_num, HSK.out, HTK.out⟩
              case pos =>
                have hk3 : decide (k < m) = true := decide_eq_true hklt
                obtain ⟨g, cur, rfl, hg1', hg2', hg3', hg4'⟩ := HROW.out (by rw [HLN.out]; omega)
                have hrow9 : wr.heap[g]? = some (.cells cur 9 (0, 0)) := (hbk.block g hg2').trans hg3'
                have e0 : wr.cell? ⟨g, k, none⟩ = some (.string ((lnames L2).getD k ⟨#[]⟩)) := by rw [cell_of_row _ _ _ _ _ _ hrow9]; exact hg4' k (by rw [HLN.out]; exact hklt)
                have hsk : ((lnames L2).getD k ⟨#[]⟩).size ≤ 1048576 := by
                  have e : (lnames L2).getD k ⟨#[]⟩ = (L2.getD k kd).1 := by simp [lnames, List.getD, show k < L2.length by rw [HM.out]; exact hklt]
                  rw [e]
                  exact (HBK.out _ (by simp [List.getD, show k < L2.length by rw [HM.out]; exact hklt])).2
                have hgk := gt_at HRS.out (show k < L2.length by rw [HM.out]; exact hklt)
                have htk := total_take (L := L2) (show k < L2.length by rw [HM.out]; exact hklt)
                have hle := total_take_le L2 (k + 1)
                rw [HTT.out] at hle
                have hprev : ∀ k', k = k' + 1 → wr.cell? ⟨g, k', none⟩ = some (.string ((lnames L2).getD k' ⟨#[]⟩)) ∧ bytesLess ((lnames L2).getD k' ⟨#[]⟩).toList ((lnames L2).getD k ⟨#[]⟩).toList = true := fun k' e => by
                  subst e
                  refine ⟨by rw [cell_of_row _ _ _ _ _ _ hrow9]; exact hg4' k' (by rw [HLN.out]; omega), ?_⟩
                  exact less_true (names_lt HRS.out (show k' + 1 < L2.length by rw [HM.out]; exact hklt))
                obtain ⟨sn, hsn⟩ : ∃ sn, (lnames L2).getD k ⟨#[]⟩ = sn := ⟨_, rfl⟩
                rw [hsn] at e0 hsk hgk hprev
                obtain ⟨gk', hgk'⟩ : ∃ g, gt sn L2 = g := ⟨_, rfl⟩
                rw [hgk'] at hgk
                obtain ⟨qk, hqk⟩ : ∃ q, (lget sn L2).isSome = q := ⟨_, rfl⟩
                obtain ⟨zk, hzk⟩ : ∃ z, sz (L2.getD k kd).2 = z := ⟨_, rfl⟩
                rw [hzk] at htk
                obtain ⟨tk, htk0⟩ : ∃ t, total (L2.take k) = t := ⟨_, rfl⟩
                rw [htk0] at htk ⊢
                rw [htk] at hle
                have hszk : sz gk' = zk := by rw [hgk, T.cp_sz, hzk]
                have hgb : gk'.bulk ≤ 1048576 := by rw [← hgk']; exact HST4.out.gt_bulk sn
                have HSK := Lib.hid (HST4.out.below hbk)
                have HGK := Lib.hid hgk'
                have HQK := Lib.hid hqk
                have HSZ := Lib.hid hszk
                have HTK := Lib.hid htk
                have HPV := Lib.hid hprev
                have hk0 : (0 : Int) ≤ k := by omega
                have hk1 : (k : Int) < m := by omega
                clear hg1' hg2' hg3' hg4' hrow9 hgk htk hprev hsn hgk' hqk hzk htk0 hszk
                go_upto_region 30 with (go_at_call 19; refine (get_c HSK.out sn hsk HGK.out HQK.out).mono ?_; rintro e w17 ⟨F1, f1, F2, f2, F3, f3, rfl, hiu, hb17⟩)
                obtain ⟨W18, hW18, pu, hb18⟩ := made_blk w17 #[.int .i64 gk'.k, .string gk'.nm, .slice F1 gk'.ns.length f1, .bool gk'.ng, .slice F2 gk'.mg.length f2, .slice F3 gk'.ks.length f3] 35
                obtain ⟨Bu, hBu⟩ : ∃ b, b = w17.heap.size := ⟨_, rfl⟩
                have hgBu : w17.heap.size ≤ Bu := by omega
                rw [← hW18, ← hBu]
                rw [← hBu] at pu
                clear hW18 hBu

                have HIU := Lib.hid (hiu.below hb18)
                have hbC := below_on hb17 hb18
                have hbD := below_on hbk hbC
                have e1 := keep_cell e0 hbC
                obtain ⟨u0', u1', u2', u3', u4', u5'⟩ := pu.six
                clear e0 hiu hb17 hb18
                have HRZ : Hid (Calls Try.prog 24 #[tv gk'.k gk'.nm F1 gk'.ns.length f1 gk'.ng F2 gk'.mg.length f2 F3 gk'.ks.length f3] W18 fun e w' => e = .returned (.int .i64 (zk : Nat)) ∧ Below W18.heap.size W18 w') := Lib.hid (by
                  have := rSize_t gk' W18 _ _ hgb HIU.out
                  rw [show min gk'.size 3001 = zk from HSZ.out] at this
                  exact this)
                go_upto_region 31 with (go_at_call 24; refine HRZ.out.mono ?_; rintro e w19 ⟨rfl, hb19⟩)
                have e2 := keep_cell e1 hb19
                have hbE := below_on hbD hb19
                have hbF := below_on hbC hb19
                clear e1 u0' u1' u2' u3' u4' u5'
                rcases Nat.eq_zero_or_pos k with hz | hz
                · subst hz
                  have d0 : decide (((0 : Nat) : Int) > 0) = false := rfl
                  go_quiet (fail)
                  go_wp2_with fail
                  go_roundg (m - 0)
                  case measure => omega
                  case rel => exact ⟨0 + 1, by omega, by omega, by go_num, by rw [HTK.out]; go_num, below_drewN hbE _⟩
                · obtain ⟨k', rfl⟩ : ∃ k', k = k' + 1 := ⟨k - 1, by omega⟩
                  obtain ⟨p0, p1⟩ := HPV.out k' rfl
                  have e3 := keep_cell p0 hbF
                  obtain ⟨sp, hsp⟩ : ∃ sp, (lnames L2).getD k' ⟨#[]⟩ = sp := ⟨_, rfl⟩
                  rw [hsp] at e3 p1
                  have d0 : decide (((k' + 1 : Nat) : Int) > 0) = true := decide_eq_true (by omega)
                  have hp0 : (0 : Int) ≤ k' := by omega
                  have hp1 : (k' : Int) < m := by omega
                  clear p0 hsp
                  go_quiet (fail)
                  go_wp2_with fail
                  go_roundg (m - (k' + 1))
                  case measure => omega
                  case rel => exact ⟨k' + 1 + 1, by omega, by omega, by go_num, by rw [HTK.out]; go_num, below_drewN hbE _⟩
end Go.Proofs.Ytmncamnlmpajbaa

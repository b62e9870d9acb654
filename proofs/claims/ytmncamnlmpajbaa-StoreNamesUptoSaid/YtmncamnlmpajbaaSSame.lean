/-
  Both stores hold the same: riddlelaw22.same: contract.
-/
import Derived.Test.YtmncamnlmpajbaaSDoes
import Derived.Deep.RegionHeld3
namespace Go.Proofs.Ytmncamnlmpajbaa
open Go.RowKit Go.Maps Go.WideMaps Go.Op

theorem names_d {w : World} {P M : Nat} {R : Nat → Prop} {L : Kl} (h : StoreAt w P M R L) {ll : Nat} (hl : L.length = ll) : Calls Try.prog 18 #[.pointer (some ⟨P, 0, none⟩)] w fun e w' => ∃ A c, e = .returned (.slice A ll c) ∧ NRow w' A w.heap.size w'.heap.size (lnames L) ∧ Below w.heap.size w w' := by
  subst hl
  exact callsIn_wide.1 (names_in 1 h)
theorem nodes_d {w : World} {P M : Nat} {R : Nat → Prop} {L : Kl} (h : StoreAt w P M R L) {tl : Nat} (hl : total L = tl) : Calls Try.prog 12 #[.pointer (some ⟨P, 0, none⟩)] w fun e w' => e = .returned (.int .i64 (tl : Nat)) ∧ w' = w := by
  subst hl
  exact nodes_s h
theorem len_d {w : World} {P M : Nat} {R : Nat → Prop} {L : Kl} (h : StoreAt w P M R L) {ll : Nat} (hl : L.length = ll) : Calls Try.prog 11 #[.pointer (some ⟨P, 0, none⟩)] w fun e w' => e = .returned (.int .i64 (ll : Nat)) ∧ w' = w := by
  subst hl
  exact len_s h
theorem rnodes_d {w : World} {Q B : Nat} {v : Value} {Z : Nat → Prop} {L : Kl} (h : RSt w Q v B Z L) {tl : Nat} (hl : total L = tl) : Calls Try.prog 13 #[.pointer (some ⟨Q, 0, none⟩)] w fun e w' => e = .returned (.int .i64 (tl : Nat)) ∧ Below w.heap.size w w' := by
  subst hl
  exact rnodes_s h
theorem Both.st {w w' : World} {P M Q B : Nat} {v : Value} {Y : Nat → Prop} {L : Kl} (h : Both w P M Q B v Y L) (hb : Below w.heap.size w w') : StoreAt w' P M (Mx w B v Y) L := by
  obtain ⟨h1, _, h3, h4, _⟩ := h
  exact h1.turn (x := fun _ => False) (to_fr hb) (fun h => h) (fun h => h) (fun b _ hb => ⟨hb, fun h => h⟩) (fun e => by have := e.1; omega) (fun e => by have := e.1; omega)
section
variable {w : World} {P M Q B : Nat} {v : Value} {Y : Nat → Prop} {L : Kl}
set_option maxRecDepth 100000 in
set_option maxHeartbeats 6400000 in
theorem same_l (h : Both w P M Q B v Y L) :
    Calls Try.prog 14 #[.pointer (some ⟨P, 0, none⟩), .pointer (some ⟨Q, 0, none⟩)] w fun e w' => e = .returned (.bool true) ∧ Below w.heap.size w w' := by
  have H := Lib.hid h
  obtain ⟨n, hn⟩ : ∃ n, L.length = n := ⟨_, rfl⟩
  obtain ⟨tl, htl⟩ : ∃ tl, total L = tl := ⟨_, rfl⟩
  have hn40 : n ≤ 40 := by rw [← hn]; exact h.2.1.2.2.2.2.1
  have htl3 : tl ≤ 3000 := by rw [← htl]; exact h.2.1.2.2.2.1
  have hq := h.2.1.2.1
  obtain ⟨A, cc, rfl, hcc, hrow⟩ := h.2.1.form
  rw [hn] at hcc hrow hq
  have HQ := Lib.hid (fun (w' : World) (hb : Below w.heap.size w w') => hq.below hb)
  have HROW := Lib.hid hrow
  have HN := Lib.hid hn
  have HTL := Lib.hid htl
  have HNM := Lib.hid (fun (w' : World) (hb : Below w.heap.size w w') => names_d (H.out.st hb) hn)
  have HND := Lib.hid (fun (w' : World) (hb : Below w.heap.size w w') => nodes_d (H.out.st hb) htl)
  have HLN := Lib.hid (fun (w' : World) (hb : Below w.heap.size w w') => len_d (H.out.st hb) hn)
  have HRN := Lib.hid (fun (w' : World) (hb : Below w.heap.size w w') => rnodes_d (H.out.2.1.below hb) htl)
  have hlen : (lnames L).length = n := by simp [lnames, hn]
  have HLL := Lib.hid hlen
  clear h hn htl hq hrow hlen
  go_enter Try.func14, Try.ntmps14
  go_upto_region 2 with (go_at_call 18; refine (HNM.out _ (Below.refl _ _)).mono ?_; rintro e w1 ⟨N1, m1, rfl, hrow1, hb1⟩)
  have q1 : w1.cell? ⟨Q, 0, none⟩ = some (.slice A n cc) := (HQ.out _ hb1).cell 0
  have HROW1 := Lib.hid hrow1
  clear hrow1
  go_cut [37] from 11 (fun v37 wd => v37 = .bool false ∧ Below w1.heap.size w1 wd)
  case first =>
    have hne : ((n : Int) != (n : Int)) = false := by simp
    have hte : ((tl : Int) != (tl : Int)) = false := by simp
    go_region_held3 (fun w' => w'.cell? ⟨Q, 0, none⟩ = some (.slice A n cc)) (go_keep) (first
      | (go_at_call 11; refine (HLN.out _ hb1.drew).mono ?_; rintro e w2 ⟨rfl, rfl⟩)
      | (go_at_call 12; refine (HND.out _ hb1.drew).mono ?_; rintro e w2 ⟨rfl, rfl⟩)
      | (go_at_call 12; refine (HND.out _ (below_on hb1 hbx)).mono ?_; rintro e w2 ⟨rfl, rfl⟩)
      | (go_at_call 13; refine (HRN.out _ hb1.drew).mono ?_; rintro e w3 ⟨rfl, hb3⟩; have hbx : Below w1.heap.size w1 w3 := below_on (Below.refl w1.heap.size w1).drew hb3; have q3 : w3.cell? ⟨Q, 0, none⟩ = some (.slice A n cc) := (HQ.out _ (below_on hb1 hbx)).cell 0))
    all_goals
      go_wp2_with fail
      go_meet
      exact ⟨rfl, hbx⟩
  obtain ⟨rfl, hb2⟩ := hcut
  rename World => W2
  have hb12 := below_on hb1 hb2
  clear q1
  go_wp2_with fail
  go_loopg [6] (n + 1) (fun gk v6 wr => ∃ i : Nat, gk + i = n + 1 ∧ i ≤ n ∧ v6 = .int .i64 (i : Nat) ∧ Below W2.heap.size W2 wr)
  case atStart => exact ⟨0, by omega, Nat.zero_le _, rfl, Below.refl _ _⟩
  case round =>
    obtain ⟨i, hi, hin, rfl, hbr⟩ := hrel
    by_cases hlt : i < n
    case neg =>
      have hi3 : decide (i < n) = false := decide_eq_false hlt
      go_wp2_with fail
      go_ret
      exact ⟨rfl, below_on hb12 hbr⟩
    case pos =>
      have hi3 : decide (i < n) = true := decide_eq_true hlt
      have hbw := below_on hb12 hbr
      obtain ⟨g, cur, rfl, _, hg2', hg3', hg4'⟩ := HROW1.out (by rw [HLL.out]; omega)
      have hrow9 : wr.heap[g]? = some (.cells cur 9 (0, 0)) := ((below_on hb2 hbr).block g hg2').trans hg3'
      have e0 : wr.cell? ⟨g, i, none⟩ = some (.string ((lnames L).getD i ⟨#[]⟩)) := by rw [cell_of_row _ _ _ _ _ _ hrow9]; exact hg4' i (by rw [HLL.out]; exact hlt)
      obtain ⟨g2, hA, _, _, rs, hrs⟩ := HROW.out (by omega)
      subst hA
      obtain ⟨_, hc0, hkid⟩ := hrs i hlt
      have hnm : (lnames L).getD i ⟨#[]⟩ = (L.getD i kd).1 := by simp [lnames, List.getD, show i < L.length by rw [HN.out]; exact hlt]
      have hmem : L.getD i kd ∈ L := by simp [List.getD, show i < L.length by rw [HN.out]; exact hlt]
      obtain ⟨⟨sn, u⟩, hsu⟩ : ∃ p, L.getD i kd = p := ⟨_, rfl⟩
      rw [hsu] at hc0 hkid hnm hmem
      dsimp only at hc0 hkid hnm
      rw [hnm] at e0
      have hsz := H.out.1.2.2.2.2.2.1 _ hmem
      have hub : u.bulk ≤ 1048576 := hsz.1
      have hsb : sn.size ≤ 1048576 := hsz.2
      have hcp : u.cp = u := H.out.2.2.2.2.2.2.2 _ hmem
      have hget := lget_of_mem H.out.2.1.2.2.1 hmem
      have HGT := Lib.hid (fun (w' : World) (hb : Below w.heap.size w w') => by have := get_here (H.out.st hb) sn hsb hget; rw [hcp] at this; exact this)
      have hc1 := keep_cell hc0 hbw
      obtain ⟨B1, b1, B2, b2, B3, b3, h6, hkin⟩ := hkid.below hbw
      have HK := Lib.hid hkin
      have HI := Lib.hid hi
      clear hc0 hkid hnm hmem hsz hcp hget hkin hrs hrow9 hg3' hg4' hg2' hsu hi
      have hi0 : (0 : Int) ≤ i := by omega
      have hi1 : (i : Int) < n := by omega
      have hq := HQ.out _ hbw
      go_upto_region 8 with (go_at_call 19; refine (HGT.out _ hbw).mono ?_; rintro e w3 ⟨c, rfl, hNew, hb3⟩; have HNEW := Lib.hid hNew; obtain ⟨F1, f1, F2, f2, F3, f3, rfl⟩ := hNew.form; clear hNew)
      obtain ⟨W4, hW4, pt, hb4⟩ := made_blk w3 #[.int .i64 u.k, .string u.nm, .slice F1 u.ns.length f1, .bool u.ng, .slice F2 u.mg.length f2, .slice F3 u.ks.length f3] 35
      obtain ⟨Bt, hBt⟩ : ∃ b, b = w3.heap.size := ⟨_, rfl⟩
      rw [← hW4, ← hBt]
      rw [← hBt] at pt
      clear hW4
      have s3 := hb3.size
      have s4 := hb4.size
      have sr := hbr.size
      have hb34 := below_on hb3 hb4
      have hbw4 := below_on hbw hb34
      have HNW := Lib.hid (HNEW.out.below (Nat.le_refl _) hb4)
      have HIN := Lib.hid (T.New.In u _ _ _ (fun _ => True) HNW.out (fun _ _ _ => trivial))
      have HK4 := Lib.hid (HK.out.below hb34)
      have HEW := Lib.hid (fun (w' : World) (hb : Below wr.heap.size wr w') => And.intro (keep_cell e0 hb) (And.intro ((HQ.out _ (below_on hbw hb)).cell 0) (And.intro (keep_cell hc1 hb) (h6.below hb))))
      have HPT := Lib.hid (fun (w' : World) (hb : Below W4.heap.size W4 w') => (pt.below hb).six)
      have HBT := Lib.hid hBt
      clear e0 hc1 h6 hBt hq
      obtain ⟨m0, m1', m2, ⟨y0, y1, y2, y3, y4, y5⟩⟩ := HEW.out W4 hb34
      obtain ⟨z0, z1, z2, z3, z4, z5⟩ := HPT.out W4 (Below.refl _ _)
      have m1'' : W4.cell? ⟨Q, 0, none⟩ = some (.slice (some ⟨g2, 0, none⟩) n cc) := m1'
      clear m1'
      go_region_held3 (fun w' => w'.cell? ⟨g, i, none⟩ = some (.string sn) ∧ w'.cell? ⟨Q, 0, none⟩ = some (.slice (some ⟨g2, 0, none⟩) n cc) ∧ w'.cell? ⟨g2, i * 7, none⟩ = some (.string sn) ∧ w'.cell? ⟨g2, i * 7 + 1, none⟩ = some (.int .i64 u.k) ∧ w'.cell? ⟨g2, i * 7 + 1 + 1, none⟩ = some (.string u.nm) ∧ w'.cell? ⟨g2, i * 7 + 1 + 2, none⟩ = some (.slice B1 u.ns.length b1) ∧ w'.cell? ⟨g2, i * 7 + 1 + 3, none⟩ = some (.bool u.ng) ∧ w'.cell? ⟨g2, i * 7 + 1 + 4, none⟩ = some (.slice B2 u.mg.length b2) ∧ w'.cell? ⟨g2, i * 7 + 1 + 5, none⟩ = some (.slice B3 u.ks.length b3) ∧ w'.cell? ⟨Bt, 0, none⟩ = some (.int .i64 u.k) ∧ w'.cell? ⟨Bt, 1, none⟩ = some (.string u.nm) ∧ w'.cell? ⟨Bt, 2, none⟩ = some (.slice F1 u.ns.length f1) ∧ w'.cell? ⟨Bt, 3, none⟩ = some (.bool u.ng) ∧ w'.cell? ⟨Bt, 4, none⟩ = some (.slice F2 u.mg.length f2) ∧ w'.cell? ⟨Bt, 5, none⟩ = some (.slice F3 u.ks.length f3)) (go_keep) ((go_at_call 22; refine (exact_t 1048576 u u _ _ _ _ _ hub hub (Nat.le_refl _) rfl (HIN.out.below (below_drew1 _)) (HK4.out.below (below_drew1 _))).mono ?_; rintro e w5 ⟨rfl, hb5⟩; have hb45 : Below W4.heap.size W4 w5 := below_on (below_drew1 W4) hb5; obtain ⟨n0, n1, n2, ⟨v0, v1, v2, v3, v4, v5⟩⟩ := HEW.out w5 (below_on hb34 hb45); obtain ⟨t0', t1, t2, t3, t4, t5⟩ := HPT.out w5 hb45; have n1' : w5.cell? ⟨Q, 0, none⟩ = some (.slice (some ⟨g2, 0, none⟩) n cc) := n1))
      have HNW5 := Lib.hid (HNW.out.below (by omega) hb45)
      have s5 := hb45.size
      have HBW5 := Lib.hid (below_on hbw4 hb45)
      have HBR5 := Lib.hid (below_on hb34 hb45)
      clear m0 m1'' m2 y0 y1 y2 y3 y4 y5 z0 z1 z2 z3 z4 z5 n0 n1 n1' n2 v0 v1 v2 v3 v4 v5
      go_upto_region 11 with (go_at_call 26; refine (spoil_t 1048576 u _ _ _ _ hub (Nat.le_refl _) HNW5.out (by omega)).mono ?_; rintro e w6 ⟨rfl, hF6⟩)
      have hbr6 : Below wr.heap.size wr w6 := Fr.below_of (((to_fr (x := fun _ => False) HBR5.out)).step hF6 (fun k hk => .inr hk.1)) (fun k hk => hk.elim)
      have hbw6 := below_on hbw hbr6
      have s6 := hF6.size
      clear t0' t1 t2 t3 t4 t5 hF6
      obtain ⟨m0, m1', m2, ⟨y0, y1, y2, y3, y4, y5⟩⟩ := HEW.out w6 hbr6
      clear y0 y1 y2 y3 y4 y5 m2 m1'
      go_upto_region 12 with (go_at_call 19; refine (HGT.out _ hbw6).mono ?_; rintro e w7 ⟨c, rfl, hNew, hb7⟩; have HNEW7 := Lib.hid hNew; obtain ⟨G1, g1, G2, gg2, G3, g3, rfl⟩ := hNew.form; clear hNew)
      obtain ⟨W8, hW8, pu, hb8⟩ := made_blk w7 #[.int .i64 u.k, .string u.nm, .slice G1 u.ns.length g1, .bool u.ng, .slice G2 u.mg.length gg2, .slice G3 u.ks.length g3] 35
      obtain ⟨Bu, hBu⟩ : ∃ b, b = w7.heap.size := ⟨_, rfl⟩
      rw [← hW8, ← hBu]
      rw [← hBu] at pu
      clear hW8 hBu m0
      have hbr8 := below_on hbr6 (below_on hb7 hb8)
      have HIN8 := Lib.hid ((T.New.In u _ _ _ (fun _ => True) HNEW7.out (fun _ _ _ => trivial)).below hb8)
      have HK8 := Lib.hid (HK.out.below hbr8)
      obtain ⟨m0, m1', m2, ⟨y0, y1, y2, y3, y4, y5⟩⟩ := HEW.out W8 hbr8
      have m1'' : W8.cell? ⟨Q, 0, none⟩ = some (.slice (some ⟨g2, 0, none⟩) n cc) := m1'
      obtain ⟨z0, z1, z2, z3, z4, z5⟩ := pu.six
      have HPU := Lib.hid pu
      clear m0 m2 m1' pu
      go_region_held3 (fun w' => w'.cell? ⟨Q, 0, none⟩ = some (.slice (some ⟨g2, 0, none⟩) n cc) ∧ w'.cell? ⟨g2, i * 7 + 1, none⟩ = some (.int .i64 u.k) ∧ w'.cell? ⟨g2, i * 7 + 1 + 1, none⟩ = some (.string u.nm) ∧ w'.cell? ⟨g2, i * 7 + 1 + 2, none⟩ = some (.slice B1 u.ns.length b1) ∧ w'.cell? ⟨g2, i * 7 + 1 + 3, none⟩ = some (.bool u.ng) ∧ w'.cell? ⟨g2, i * 7 + 1 + 4, none⟩ = some (.slice B2 u.mg.length b2) ∧ w'.cell? ⟨g2, i * 7 + 1 + 5, none⟩ = some (.slice B3 u.ks.length b3) ∧ w'.cell? ⟨Bu, 0, none⟩ = some (.int .i64 u.k) ∧ w'.cell? ⟨Bu, 1, none⟩ = some (.string u.nm) ∧ w'.cell? ⟨Bu, 2, none⟩ = some (.slice G1 u.ns.length g1) ∧ w'.cell? ⟨Bu, 3, none⟩ = some (.bool u.ng) ∧ w'.cell? ⟨Bu, 4, none⟩ = some (.slice G2 u.mg.length gg2) ∧ w'.cell? ⟨Bu, 5, none⟩ = some (.slice G3 u.ks.length g3)) (go_keep) ((go_at_call 22; refine (exact_t 1048576 u u _ _ _ _ _ hub hub (Nat.le_refl _) rfl (HIN8.out.below (below_drew1 _)) (HK8.out.below (below_drew1 _))).mono ?_; rintro e w9 ⟨rfl, hb9⟩; have hb89 : Below W8.heap.size W8 w9 := below_on (below_drew1 W8) hb9; obtain ⟨n0, n1, n2, ⟨v0, v1, v2, v3, v4, v5⟩⟩ := HEW.out w9 (below_on hbr8 hb89); obtain ⟨t0', t1, t2, t3, t4, t5⟩ := (HPU.out.below hb89).six; have n1' : w9.cell? ⟨Q, 0, none⟩ = some (.slice (some ⟨g2, 0, none⟩) n cc) := n1))
      go_wp2_with fail
      go_roundg (n - i)
      case measure => have := HI.out; omega
      case rel => exact ⟨i + 1, by have := HI.out; omega, by omega, by go_num, below_on hbr (below_on hbr8 hb89)⟩
end
end Go.Proofs.Ytmncamnlmpajbaa

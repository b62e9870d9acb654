/-
  The walk of StorePlays.
-/
import Derived.Test.YtmncamnlmpajbaaSSame
namespace Go.Proofs.Ytmncamnlmpajbaa
open Go.RowKit Go.Maps Go.WideMaps Go.Op

theorem StepAt.below {w w' : World} {R : Nat → Prop} {b o : Nat} {x : Stp} (h : StepAt w R b o x) (hb : Below w.heap.size w w') : StepAt w' R b o x := ⟨keep_cell h.1 hb, keep_cell h.2.1 hb, h.2.2.1.below hb, h.2.2.2⟩
/-- The stores at the start. -/
theorem both_new {w1 w3 : World} {P M Q : Nat} {Y : Nat → Prop} (hst : ∀ R : Nat → Prop, ¬ R P → ¬ R M → StoreAt w1 P M R []) (hb : Below w1.heap.size w1 w3) (hP : P < w3.heap.size) (hM : M < w3.heap.size) (hQP : Q ≠ P) (hQM : Q ≠ M) (hQ : Blk w3 Q 41 #[.slice none 0 0]) : Both w3 P M Q w3.heap.size (.slice none 0 0) Y [] :=
  ⟨(hst _ (fun e => by have := e.1; omega) (fun e => by have := e.1; omega)).below hb, RSt.new w3 Q w3.heap.size Y hQ.lt hQ, hP, hM, hQP, hQM, Nat.le_refl _, fun p hp => by cases hp⟩
theorem hit_fr {w3 wr w5 : World} {P M Q : Nat} {v : Value} (hF : Fr w3 wr (fun b => b = P ∨ b = M ∨ b = Q)) (hF5 : Fr wr.drew w5 (Hit P M Q v)) (hrow : ∀ b, v.ownBlock = some b → w3.heap.size ≤ b) : Fr w3 w5 (fun b => b = P ∨ b = M ∨ b = Q) := hF.drew.step hF5 (fun k hk => by
  rcases hk with e | e | e | e
  · exact .inl (.inl e)
  · exact .inl (.inr (.inl e))
  · exact .inl (.inr (.inr e))
  · exact .inr (hrow k e))
/-- What is known behind a step. -/
theorem both_open {w : World} {P M Q B : Nat} {v : Value} {Y : Nat → Prop} {L : Kl} (h : Both w P M Q B v Y L) : ∃ A n c tl, v = .slice A n c ∧ n ≤ 40 ∧ tl ≤ 3000 ∧ Hid (L.length = n ∧ total L = tl) ∧ Hid (∀ w', Below w.heap.size w w' → w'.cell? ⟨Q, 0, none⟩ = some (.slice A n c)) ∧
    Hid (∀ w', Below w.heap.size w w' → Calls Try.prog 11 #[.pointer (some ⟨P, 0, none⟩)] w' fun e w2 => e = .returned (.int .i64 (n : Nat)) ∧ w2 = w') ∧
    Hid (∀ w', Below w.heap.size w w' → Calls Try.prog 12 #[.pointer (some ⟨P, 0, none⟩)] w' fun e w2 => e = .returned (.int .i64 (tl : Nat)) ∧ w2 = w') ∧
    Hid (∀ w', Below w.heap.size w w' → Calls Try.prog 13 #[.pointer (some ⟨Q, 0, none⟩)] w' fun e w2 => e = .returned (.int .i64 (tl : Nat)) ∧ Below w'.heap.size w' w2) := by
  obtain ⟨A, c, rfl, _, _⟩ := h.2.1.form
  exact ⟨A, L.length, c, total L, rfl, h.2.1.2.2.2.2.1, h.2.1.2.2.2.1, Lib.hid ⟨rfl, rfl⟩, Lib.hid (fun w' hb => (h.2.1.2.1.below hb).cell 0), Lib.hid (fun w' hb => len_d (h.st hb) rfl), Lib.hid (fun w' hb => nodes_d (h.st hb) rfl), Lib.hid (fun w' hb => rnodes_d (h.2.1.below hb) rfl)⟩
set_option maxRecDepth 100000 in
set_option maxHeartbeats 12800000 in
theorem plays_walk (w : World) (v : Value) (xs : List Stp) (h : StepsIn w v xs) : Calls Try.prog 3 #[v] w fun e w' => e = .returned (.bool true) ∧ Below w.heap.size w w' := by
  obtain ⟨A, c, rfl, hcap, hlen, hx⟩ := h
  obtain ⟨n, hn⟩ : ∃ n, xs.length = n := ⟨_, rfl⟩
  rw [hn] at hcap hlen hx ⊢
  have HX := Lib.hid hx
  clear hn hx
  go_enter Try.func3, Try.ntmps3
  go_upto_region 2 with (go_at_call 7; refine (new_s _).mono ?_; rintro e w1 ⟨P, M, rfl, hst, hP, hM, hP2, hM2, hb1⟩)
  go_upto_region 3 with (go_at_call 8; refine (rnew_s _).mono ?_; rintro e w2 ⟨rfl, rfl⟩)
  obtain ⟨W2, hW2, hqb, hb2⟩ := made_blk w1 #[.slice none 0 0] 41
  obtain ⟨Q, hQ⟩ : ∃ Q, Q = w1.heap.size := ⟨_, rfl⟩
  rw [← hW2, ← hQ]
  rw [← hQ] at hqb
  have hQ1 : w1.heap.size ≤ Q := by omega
  clear hW2 hQ
  go_upto_region 5 with (go_at_call 9; refine (known_l _).mono ?_; rintro e w3 ⟨rfl, hb3⟩)
  have s1 := hb1.size
  have s2 := hb2.size
  have s3 := hb3.size
  have hl := hqb.lt
  have hqP : Q ≠ P := by omega
  have hqM : Q ≠ M := by omega
  have hBo : Both w3 P M Q w3.heap.size (.slice none 0 0) (fun _ => True) [] := both_new hst (below_on hb2 hb3) (by omega) (by omega) hqP hqM (hqb.below hb3)
  obtain ⟨B, hB⟩ : ∃ B, w3.heap.size = B := ⟨_, rfl⟩
  rw [hB] at hBo
  have hb03 := below_on (below_on hb1 hb2) hb3
  have hPM : w.heap.size ≤ P ∧ w.heap.size ≤ M ∧ w.heap.size ≤ Q ∧ w.heap.size ≤ B ∧ P < B ∧ M < B ∧ Q < B := by omega
  have HBO := Lib.hid hBo
  have HB := Lib.hid hB
  have HB3 := Lib.hid hb03
  clear hst hP hM hP2 hM2 hb1 hb2 hb3 hBo hB hQ1 hqb hl s1 s2 s3 hb03
  go_wp2_with fail
  go_loopg [5] (n + 1) (fun gk v5 wr => ∃ (i : Nat) (v : Value) (L : Kl), gk + i = n + 1 ∧ i ≤ n ∧ v5 = .int .i64 (i : Nat) ∧ Both wr P M Q B v (fun _ => True) L ∧ Fr w3 wr (fun b => b = P ∨ b = M ∨ b = Q))
  case atStart => exact ⟨0, _, [], by omega, Nat.zero_le _, rfl, HBO.out, Fr.refl _ _⟩
  case round =>
    obtain ⟨i, v, L, hi, hin, rfl, hBo, hF⟩ := hrel
    have hbr : Below w.heap.size w wr := below_fr HB3.out hF (fun k e => by omega)
    by_cases hlt : i < n
    case neg =>
      have hi3 : decide (i < n) = false := decide_eq_false hlt
      have HBo := Lib.hid hBo
      clear hBo hF
      obtain rfl : i = n := by omega
      go_upto_region 10 with (fail)
      go_wp2_with (go_at_call 14; refine (same_l HBo.out).mono ?_; rintro e w9 ⟨rfl, hb9⟩)
      go_ret
      exact ⟨rfl, below_on hbr hb9⟩
    case pos =>
      have hi3 : decide (i < n) = true := decide_eq_true hlt
      obtain ⟨b, o, rfl, hk0⟩ := HX.out (by omega)
      have hk := fun j hj => (hk0 j hj).below hbr
      have hstp := hk i hlt
      obtain ⟨⟨kz, nm, t⟩, hxi⟩ : ∃ x, xs.getD i stp0 = x := ⟨_, rfl⟩
      rw [hxi] at hstp
      obtain ⟨s0, s1, ⟨A1, c1, A2, c2, A3, c3, ⟨y0, y1, y2, y3, y4, y5⟩, hkin⟩, hnm, hbt⟩ := hstp
      dsimp only at s0 s1 y0 y1 y2 y3 y4 y5 hkin hnm hbt
      have y1 : wr.cell? ⟨b, o + i * 8 + 3, none⟩ = some (.string t.nm) := y1
      have y2 : wr.cell? ⟨b, o + i * 8 + 4, none⟩ = some (.slice A1 t.ns.length c1) := y2
      have y3 : wr.cell? ⟨b, o + i * 8 + 5, none⟩ = some (.bool t.ng) := y3
      have y4 : wr.cell? ⟨b, o + i * 8 + 6, none⟩ = some (.slice A2 t.mg.length c2) := y4
      have y5 : wr.cell? ⟨b, o + i * 8 + 7, none⟩ = some (.slice A3 t.ks.length c3) := y5
      have hi0 : (0 : Int) ≤ i := by omega
      have hi1 : (i : Int) < n := by omega
      have HK := Lib.hid hkin
      have HCW := Lib.hid (fun (w' : World) (hF' : Fr wr.drew w' (Hit P M Q v)) => (show w'.cell? ⟨b, o + i * 8, none⟩ = some (.int .i64 kz) ∧ w'.cell? ⟨b, o + i * 8 + 1, none⟩ = some (.string nm) ∧ w'.cell? ⟨b, o + i * 8 + 2, none⟩ = some (.int .i64 t.k) ∧ w'.cell? ⟨b, o + i * 8 + 3, none⟩ = some (.string t.nm) ∧ w'.cell? ⟨b, o + i * 8 + 4, none⟩ = some (.slice A1 t.ns.length c1) ∧ w'.cell? ⟨b, o + i * 8 + 5, none⟩ = some (.bool t.ng) ∧ w'.cell? ⟨b, o + i * 8 + 6, none⟩ = some (.slice A2 t.mg.length c2) ∧ w'.cell? ⟨b, o + i * 8 + 7, none⟩ = some (.slice A3 t.ks.length c3) from by
        have hbw : ¬ Hit P M Q v b := fun e => (by
          have hlt0 : b < w.heap.size := World.block_lt_of_cell? w _ (hk0 i hlt).1
          rcases e with e | e | e | e
          · omega
          · omega
          · omega
          · have := (hBo.row b e).1; omega)
        have hk' : ∀ (j : Nat) (u : Value), wr.cell? ⟨b, j, none⟩ = some u → w'.cell? ⟨b, j, none⟩ = some u := fun j u hu => (World.cell?_of_block (a := (⟨b, j, none⟩ : Addr)) (hF'.block b (World.block_lt_of_cell? wr _ hu) hbw)).trans hu
        exact ⟨hk' _ _ s0, hk' _ _ s1, hk' _ _ y0, hk' _ _ y1, hk' _ _ y2, hk' _ _ y3, hk' _ _ y4, hk' _ _ y5⟩))
      have HBo := Lib.hid hBo
      have HF := Lib.hid hF
      have HI := Lib.hid hi
      have hsr := hbr.size
      clear hk hk0 hxi hkin hBo hF hi
      go_upto_region 8 with (fail)
      go_region_with (first
        | (go_at_call 10; refine (does_l (HBo.out.below (below_drew1 _)) (fun _ _ => trivial) kz nm hnm t hbt (fun b => b < w.heap.size) (fun b hb => ⟨Nat.lt_of_lt_of_le hb hsr, by omega, by omega⟩) (HK.out.below (below_drew1 _))).mono ?_; rintro e w5 ⟨rfl, v', L', hB5, hF5, hv5⟩; obtain ⟨A', n', c', tl', rfl, hn40, htl3, _, HQ5, HLN5, HND5, HRN5⟩ := both_open hB5; have HB5 := Lib.hid hB5; have HF5 := Lib.hid hF5; have q5 := HQ5.out w5 (Below.refl _ _); clear hB5 hF5 hv5 s0 s1 y0 y1 y2 y3 y4 y5)
        | (go_at_call 11; refine (HLN5.out _ (Below.refl _ _)).mono ?_; rintro e w6 ⟨rfl, rfl⟩)
        | (go_at_call 12; refine (HND5.out _ (Below.refl _ _)).mono ?_; rintro e w6 ⟨rfl, rfl⟩)
        | (go_at_call 12; refine (HND5.out _ hbx).mono ?_; rintro e w6 ⟨rfl, rfl⟩)
        | (go_at_call 13; refine (HRN5.out _ (Below.refl _ _)).mono ?_; rintro e w7 ⟨rfl, hbx⟩; have q7 := HQ5.out w7 hbx))
      all_goals
        have hFN := hit_fr HF.out HF5.out (fun k e => by have := (HBo.out.row k e).1; have := HB.out; omega)
        have HFN := Lib.hid hFN
        clear hFN q5
        try clear q7
        go_wp2_with fail
        go_roundg (n - i)
        case measure => have := HI.out; omega
        case rel =>
          first
            | exact ⟨i + 1, _, L', by have := HI.out; omega, by omega, by go_num, HB5.out, HFN.out⟩
            | exact ⟨i + 1, _, L', by have := HI.out; omega, by omega, by go_num, HB5.out.below hbx, HFN.out.below hbx⟩
end Go.Proofs.Ytmncamnlmpajbaa

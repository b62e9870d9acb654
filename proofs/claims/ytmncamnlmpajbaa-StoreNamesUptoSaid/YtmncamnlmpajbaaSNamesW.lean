/-
  The walk of StoreNames.
-/
import Derived.Test.YtmncamnlmpajbaaSSame
import Derived.Deep.CutRange
namespace Go.Proofs.Ytmncamnlmpajbaa
open Go.RowKit Go.Maps Go.WideMaps Go.Op

set_option maxRecDepth 100000 in
set_option maxHeartbeats 1600000 in
theorem rnames_s {w : World} {Q B : Nat} {v : Value} {Z : Nat → Prop} {L : Kl} (h : RSt w Q v B Z L) : Calls Try.prog 16 #[.pointer (some ⟨Q, 0, none⟩)] w fun e w' => ∃ A c, e = .returned (.slice A L.length c) ∧ NRow w' A w.heap.size w'.heap.size (lnames L) ∧ Below w.heap.size w w' := by
  have hn := h.2.2.2.2.1
  have hq := h.2.1
  obtain ⟨A, c, rfl, hc, hrow⟩ := h.form
  obtain ⟨n, hL⟩ : ∃ n, L.length = n := ⟨_, rfl⟩
  rw [hL] at hrow hc hn hq ⊢
  have HROW := Lib.hid hrow
  have HL := Lib.hid hL
  obtain ⟨i0, hi, iz0, iz1, iz2⟩ := info_parts info_str
  clear hrow hL h
  go_enter Try.func16, Try.ntmps16
  go_wp2_with fail
  go_loopg [3, 4] (n + 1) (fun gk v3 v4 wr => ∃ (i : Nat), gk + i = n + 1 ∧ i ≤ n ∧ v4 = .int .i64 (i : Nat) ∧ wr.ownsRow w.heap.size 9 1 v3 i (((lnames L).take i).map Value.string) ∧ Below w.heap.size w wr)
  case atStart => exact ⟨0, by omega, Nat.zero_le _, rfl, World.ownsRow_nil _ _ _ _, Below.refl _ _⟩
  case round =>
    obtain ⟨i, hi', hip, rfl, hown, hb⟩ := hrel
    have q0 : wr.cell? ⟨Q, 0, none⟩ = some (.slice A n c) := (hq.below hb).cell 0
    by_cases hlt : i < n
    · obtain ⟨g, rfl, hgB, hgl, rs, hrs⟩ := HROW.out (by omega)
      obtain ⟨_, c0, _⟩ := hrs i hlt
      have e0 := keep_cell c0 hb
      have hnm : (lnames L).getD i ⟨#[]⟩ = (L.getD i kd).1 := by simp [lnames, List.getD, show i < L.length by rw [HL.out]; exact hlt]
      have hll : (lnames L).length = n := by simp [lnames, HL.out]
      have hsn : (lnames L).take (i + 1) = (lnames L).take i ++ [(L.getD i kd).1] := by rw [← hnm]; exact take_snoc _ _ _ (by rw [hll]; exact hlt)
      obtain ⟨s, hs⟩ : ∃ s, (L.getD i kd).1 = s := ⟨_, rfl⟩
      rw [hs] at e0 hsn
      have HSN := Lib.hid hsn
      have HI := Lib.hid hi'
      have hi3 : decide (i < n) = true := decide_eq_true hlt
      have hi0 : (0 : Int) ≤ i := by omega
      have hi1 : (i : Int) < n := by omega
      obtain ⟨A3, c3, rfl⟩ := own_form hown
      have hbs := own_base hown
      have hal := below_alloc1 wr (.cells #[.string s] 9)
      have hx1 := Blk.new wr 9 #[.string s]
      have hownA := hown.kept (gb_of_below hal none) (by cases (Value.slice A3 i c3).ownBlock <;> simp)
      have hsz := hb.size
      have HOA := Lib.hid hownA
      have HX1 := Lib.hid hx1
      have HBS := Lib.hid hbs
      have HB := Lib.hid hb
      clear hrs c0 hnm hll hsn hs hi' hown hal hx1 hownA hbs hb
      go_wp2_with (at_builtin; refine wpList_append_own_at (P := Try.prog) _ rfl (.tmp 14) (.tmp 23) 29 rfl w.heap.size 9 i0 (.string ⟨#[]⟩) 1 16 Try.underlying29 hi iz0 iz1 iz2 rfl (by decide) _ i _ rfl HOA.out ⟨wr.heap.size, 0, none⟩ 1 1 [.string s] rfl rfl (fun j u hu => by rw [Addr.add_lit, Nat.zero_add]; rw [HX1.out.cell j]; simpa using hu) (fun u hu => by simp only [List.mem_cons, List.not_mem_nil, or_false] at hu; rw [hu]; rfl) (Nat.le_trans (show i + 1 ≤ 41 by omega) (by decide)) (by omega) (by simp only [World.size_alloc]; omega) ?_; intro v' w3 hown3 hg3 _ hblk)
      go_roundg (n - i)
      case measure => have := HI.out; omega
      case rel => exact ⟨i + 1, by have := HI.out; omega, by omega, by go_num, by rw [HSN.out, List.map_append]; exact hown3, ((Fr.refl w (fun _ => False)).below (below_on HB.out (below_alloc1 _ _)) |>.grown hg3 (fun k e => .inr (HBS.out k e).1)).below_of (fun k hk => hk.elim)⟩
    · obtain rfl : i = n := by omega
      have hi3 : decide (i < i) = false := decide_eq_false hlt
      have HO := Lib.hid hown
      clear hown
      go_wp2_with fail
      go_ret
      have hll : (lnames L).length = i := by simp [lnames, HL.out]
      obtain ⟨A', c', e1, h1, _⟩ := NRow.of_own (ns := lnames L) hll.symm (by rw [List.take_of_length_le (by omega)]) HO.out
      exact ⟨A', c', by rw [e1, hll]; rfl, h1, hb⟩
end Go.Proofs.Ytmncamnlmpajbaa
namespace Go.Proofs.Ytmncamnlmpajbaa
open Go.RowKit Go.Maps Go.WideMaps Go.Op Go.Shelf
attribute [local go_sem] Oper.semAt_some

theorem StepAt.below {w w' : World} {R : Nat → Prop} {b o : Nat} {x : Stp} (h : StepAt w R b o x) (hb : Below w.heap.size w w') : StepAt w' R b o x := ⟨keep_cell h.1 hb, keep_cell h.2.1 hb, h.2.2.1.below hb, h.2.2.2⟩
/-- The stores at the start. -/
theorem both_new {w1 w3 : World} {P M Q : Nat} {Y : Nat → Prop} (hst : ∀ R : Nat → Prop, ¬ R P → ¬ R M → StoreAt w1 P M R []) (hb : Below w1.heap.size w1 w3) (hP : P < w3.heap.size) (hM : M < w3.heap.size) (hQP : Q ≠ P) (hQM : Q ≠ M) (hQ : Blk w3 Q 41 #[.slice none 0 0]) : Both w3 P M Q w3.heap.size (.slice none 0 0) Y [] :=
  ⟨(hst _ (fun e => by have := e.1; omega) (fun e => by have := e.1; omega)).below hb, RSt.new w3 Q w3.heap.size Y hQ.lt hQ, hP, hM, hQP, hQM, Nat.le_refl _, fun p hp => by cases hp⟩
theorem hit_fr {w3 wr w5 : World} {P M Q : Nat} {v : Value} (hF : Fr w3 wr (fun b => b = P ∨ b = M ∨ b = Q)) (hF5 : Fr wr.drew w5 (Hit P M Q v)) (hrow : ∀ b, v.ownBlock = some b → w3.heap.size ≤ b) : Fr w3 w5 (fun b => b = P ∨ b = M ∨ b = Q) := hF.drew.step hF5 (fun k hk => by
  rcases hk with e | e | e | e
  · exact .inl (.inl e)
  · exact .inl (.inr (.inl e))
  · exact .inl (.inr (.inr e))
  · exact .inr (hrow k e))
theorem hit_fr0 {w3 wr w5 : World} {P M Q : Nat} {v : Value} (hF : Fr w3 wr (fun b => b = P ∨ b = M ∨ b = Q)) (hF5 : Fr wr w5 (Hit P M Q v)) (hrow : ∀ b, v.ownBlock = some b → w3.heap.size ≤ b) : Fr w3 w5 (fun b => b = P ∨ b = M ∨ b = Q) := hF.step hF5 (fun k hk => by
  rcases hk with e | e | e | e
  · exact .inl (.inl e)
  · exact .inl (.inr (.inl e))
  · exact .inl (.inr (.inr e))
  · exact .inr (hrow k e))
theorem run_store_fn {P : Program} (w : World) (a : Addr) (m : Mode) (f : Fn) (ts bs : Array Value) : (store a (.func f ts bs) m).run P w = stored P w a (.func f ts bs) m := run_store P w a _ m rfl
attribute [local go_sem] run_store_fn
theorem results_bool {fn : Func} {p : Tmp} (h : fn.results = #[.cell p 4]) (tmps : Array Value) (w : World) (g : Nat) (b : Bool)
    (hp : tmps.getD p undef = .pointer (some ⟨g, 0, none⟩)) (hc : w.cell? ⟨g, 0, none⟩ = some (.bool b)) :
    (results fn tmps).run Try.prog w = .ok (.bool b) w := by
  have hp' : tmps[p]?.getD undef = .pointer (some ⟨g, 0, none⟩) := by simpa using hp
  simp [results, h, hp', go_sem, hc]
set_option maxRecDepth 100000 in
set_option maxHeartbeats 12800000 in
theorem names_law (n0 : Nat) (w : World) (v : Value) (xs : List Stp) (h : StepsIn w v xs) (z : Int) :
    CallsIn Fence.wide n0 Try.prog 4 #[v, .int .i64 z] w fun e w' => e = .returned (.bool true) ∧ Below w.heap.size w w' := by
  obtain ⟨A, c, rfl, hcap, hlen, hx⟩ := h
  obtain ⟨n, hn⟩ : ∃ n, xs.length = n := ⟨_, rfl⟩
  rw [hn] at hcap hlen hx ⊢
  have HX := Lib.hid hx
  clear hn hx
  refine callsIn_of_wp_marks Try.func4 rfl trivial ?_ rfl
  simp only [Try.ntmps4, List.size_toArray, List.length_cons, List.length_nil, Nat.reduceAdd, Nat.reduceSub, Array.replicate_succ, Array.replicate_zero, List.push_toArray, List.append_toArray, List.nil_append, List.cons_append]
  refine wpIn_wide.2 ?_
  go_upto_region 1 with (fail)
  obtain ⟨W0, hW0⟩ : ∃ W0, W0 = (w.alloc (.cells #[.int .i64 z] 3)).alloc (.cells #[.bool false] 4) := ⟨_, rfl⟩
  obtain ⟨Bm, hBm⟩ : ∃ b, b = w.heap.size := ⟨_, rfl⟩
  have pm : Blk W0 Bm 3 #[.int .i64 z] := by rw [hW0, hBm]; exact (Blk.new w _ _).below (below_alloc1 _ _)
  have pr : Blk W0 (Bm + 1) 4 #[.bool false] := by rw [hW0, hBm]; have := Blk.new (w.alloc (.cells #[.int .i64 z] 3)) 4 #[.bool false]; rwa [World.size_alloc] at this
  have hb0 : Below w.heap.size w W0 := by rw [hW0]; exact below_on (below_alloc1 _ _) (below_alloc1 _ _)
  rw [← hW0, ← hBm]
  have hBm1 : w.heap.size ≤ Bm := by omega
  have hs0 : W0.heap.size = Bm + 2 := by rw [hW0, hBm]; simp
  have HS0 := Lib.hid hs0
  clear hW0 hBm hs0
  go_upto_region 2 with (go_at_call 7; refine (new_s _).mono ?_; rintro e w1 ⟨P, M, rfl, hst, hP, hM, hP2, hM2, hb1⟩)
  go_upto_region 3 with (go_at_call 8; refine (rnew_s _).mono ?_; rintro e w2 ⟨rfl, rfl⟩)
  obtain ⟨W2, hW2, hqb, hb2⟩ := made_blk w1 #[.slice none 0 0] 41
  obtain ⟨Q, hQ⟩ : ∃ Q, Q = w1.heap.size := ⟨_, rfl⟩
  rw [← hW2, ← hQ]
  rw [← hQ] at hqb
  have hQ1 : w1.heap.size ≤ Q := by omega
  clear hW2 hQ
  go_upto_region 5 with (go_at_call 9; refine (known_l _).mono ?_; rintro e w3 ⟨rfl, hb3⟩)
  go_upto_region 6 with (go_at_call 15; refine (names_x _ _).mono ?_; rintro e w4 ⟨rfl, rfl⟩)
  obtain ⟨W5, hW5⟩ : ∃ W, W = (w3.alloc (.cells #[.pointer (some ⟨P, 0, none⟩)] 23)).alloc (.cells #[.func (.func 30) #[] #[.pointer (some ⟨w3.heap.size, 0, none⟩)]] 45) := ⟨_, rfl⟩
  obtain ⟨Bp, hBp⟩ : ∃ b, b = w3.heap.size := ⟨_, rfl⟩
  have pp : Blk W5 Bp 23 #[.pointer (some ⟨P, 0, none⟩)] := by rw [hW5, hBp]; exact (Blk.new w3 _ _).below (below_alloc1 _ _)
  have ps : Blk W5 (Bp + 1) 45 #[.func (.func 30) #[] #[.pointer (some ⟨Bp, 0, none⟩)]] := by rw [hW5, hBp]; have := Blk.new (w3.alloc (.cells #[.pointer (some ⟨P, 0, none⟩)] 23)) 45 #[.func (.func 30) #[] #[.pointer (some ⟨w3.heap.size, 0, none⟩)]]; rwa [World.size_alloc] at this
  have hb5 : Below w3.heap.size w3 W5 := by rw [hW5]; exact below_on (below_alloc1 _ _) (below_alloc1 _ _)
  rw [← hW5, ← hBp]
  have hBp1 : w3.heap.size ≤ Bp := by omega
  clear hW5 hBp
  have s0 := HS0.out
  have s1 := hb1.size
  have s2 := hb2.size
  have s3 := hb3.size
  have s5 := hb5.size
  have l1 := hqb.lt
  have l2 := ps.lt
  have hb35 := below_on hb3 hb5
  have hb25 := below_on hb2 hb35
  have hb15 := below_on hb1 hb25
  have hBo : Both W5 P M Q W5.heap.size (.slice none 0 0) (fun _ => True) [] := both_new hst hb25 (by omega) (by omega) (by omega) (by omega) (hqb.below hb35)
  have pm5 := pm.below hb15
  have pr5 := pr.below hb15
  obtain ⟨B, hB⟩ : ∃ B, W5.heap.size = B := ⟨_, rfl⟩
  rw [hB] at hBo
  have hb05 := below_on hb0 hb15
  have hlo : w.heap.size ≤ P ∧ w.heap.size ≤ M ∧ w.heap.size ≤ Q ∧ w.heap.size ≤ B := by omega
  have hdis : (Bm ≠ P ∧ Bm ≠ M ∧ Bm ≠ Q) ∧ (Bm + 1 ≠ P ∧ Bm + 1 ≠ M ∧ Bm + 1 ≠ Q) ∧ (Bp ≠ P ∧ Bp ≠ M ∧ Bp ≠ Q) ∧ (Bp + 1 ≠ P ∧ Bp + 1 ≠ M ∧ Bp + 1 ≠ Q) ∧ Bm + 1 < B ∧ Bp + 1 < B ∧ Bm + 1 < Bp := by omega
  have HBO := Lib.hid hBo
  have HB := Lib.hid hB
  have HB5 := Lib.hid hb05
  clear hst hP hM hP2 hM2 hb1 hb2 hb3 hBo hB hQ1 hqb l1 l2 s0 s1 s2 s3 s5 hb35 hb25 hb15 hb05 hb0 hb5 pm pr hBp1
  go_wp2_with fail
  go_loopg [8] (n + 1) (fun gk v8 wr => ∃ (i : Nat) (v : Value) (L : Kl), gk + i = n + 1 ∧ i ≤ n ∧ v8 = .int .i64 (i : Nat) ∧ Both wr P M Q B v (fun _ => True) L ∧ Fr W5 wr (fun b => b = P ∨ b = M ∨ b = Q))
  case atStart => exact ⟨0, _, [], by omega, Nat.zero_le _, rfl, HBO.out, Fr.refl _ _⟩
  case round =>
    obtain ⟨i, v, L, hi, hin, rfl, hBo, hF⟩ := hrel
    have hbr : Below w.heap.size w wr := below_fr HB5.out hF (fun k e => by omega)
    by_cases hlt : i < n
    case pos =>
      have hi3 : decide (i < n) = true := decide_eq_true hlt
      obtain ⟨b, o, rfl, hk0⟩ := HX.out (by omega)
      have hk := fun j hj => (hk0 j hj).below hbr
      have hstp := hk i hlt
      obtain ⟨⟨kz, nm, t⟩, hxi⟩ : ∃ x, xs.getD i stp0 = x := ⟨_, rfl⟩
      rw [hxi] at hstp
      obtain ⟨s0, s1, ⟨A1, c1, A2, c2, A3, c3, ⟨y0, y1, y2, y3, y4, y5⟩, hkin⟩, hnm, hbt⟩ := hstp
      dsimp only at s0 s1 y0 y1 y2 y3 y4 y5 hkin hnm hbt
      have y1 : wr.cell? ⟨b, o + i * 8 + 3, none⟩ = some (.string t.nm) := y1
      have y2 : wr.cell? ⟨b, o + i * 8 + 4, none⟩ = some (.slice A1 t.ns.length c1) := y2
      have y3 : wr.cell? ⟨b, o + i * 8 + 5, none⟩ = some (.bool t.ng) := y3
      have y4 : wr.cell? ⟨b, o + i * 8 + 6, none⟩ = some (.slice A2 t.mg.length c2) := y4
      have y5 : wr.cell? ⟨b, o + i * 8 + 7, none⟩ = some (.slice A3 t.ks.length c3) := y5
      have hi0 : (0 : Int) ≤ i := by omega
      have hi1 : (i : Int) < n := by omega
      have HK := Lib.hid hkin
      have HBo := Lib.hid hBo
      have HF := Lib.hid hF
      have HI := Lib.hid hi
      have hsr := hbr.size
      clear hk hk0 hxi hkin hBo hF hi
      go_wp2_with (go_at_call 10; refine (does_l HBo.out (fun _ _ => trivial) kz nm hnm t hbt (fun b => b < w.heap.size) (fun b hb => ⟨Nat.lt_of_lt_of_le hb hsr, by omega, by omega⟩) HK.out).mono ?_; rintro e w6 ⟨rfl, v', L', hB5, hF5, hv5⟩; have HB6 := Lib.hid hB5; have HF6 := Lib.hid (hit_fr0 HF.out hF5 (fun k e => by have := (HBo.out.row k e).1; have := HB.out; omega)); clear hB5 hF5 hv5 s0 s1 y0 y1 y2 y3 y4 y5)
      go_roundg (n - i)
      case measure => have := HI.out; omega
      case rel => exact ⟨i + 1, v', L', by have := HI.out; omega, by omega, by go_num, HB6.out, HF6.out⟩
    case neg =>
      have hi3 : decide (i < n) = false := decide_eq_false hlt
      obtain rfl : i = n := by omega
      obtain ⟨ll, hll⟩ : ∃ ll, L.length = ll := ⟨_, rfl⟩
      have HRN := Lib.hid (rnames_s hBo.2.1)
      rw [hll] at HRN
      have HBo := Lib.hid hBo
      have HF := Lib.hid hF
      have HLL := Lib.hid hll
      clear hBo hF hi hll
      go_upto_region 12 with (go_at_call 16; refine HRN.out.mono ?_; rintro e w7 ⟨N1, m1, rfl, hrow, hb7⟩)
      have hsr := hbr.size
      have hs7 := hb7.size
      have hBwr : B ≤ wr.heap.size := by have := HF.out.size; have := HB.out; omega
      obtain ⟨W8, hW8, pw, hb8⟩ := made_blk w7 #[.slice N1 ll m1] 29
      obtain ⟨Bw, hBw⟩ : ∃ b, b = w7.heap.size := ⟨_, rfl⟩
      have hgw : w7.heap.size ≤ Bw := by omega
      rw [← hW8, ← hBw]
      rw [← hBw] at pw
      have hw8 : Bw < W8.heap.size := pw.lt
      clear hW8 hBw
      go_upto_region 13 with (fail)
      obtain ⟨W9, hW9, pkb, hb9⟩ := made_blk W8 #[.int .i64 0] 3
      obtain ⟨Bk, hBk⟩ : ∃ b, b = W8.heap.size := ⟨_, rfl⟩
      have hgk : W8.heap.size ≤ Bk := by omega
      rw [← hW9, ← hBk]
      rw [← hBk] at pkb
      have hkl : Bk < W9.heap.size := pkb.lt
      clear hW9 hBk
      have hb79 := below_on hb7 (below_on hb8 hb9)
      have psr := HF.out.blk ps (by omega)
      have ppr := HF.out.blk pp (by omega)
      have pmr := HF.out.blk pm5 (by omega)
      have prr := HF.out.blk pr5 (by omega)
      have ps9 := psr.below hb79
      have pp9 := ppr.below hb79
      have pm9 := pmr.below hb79
      have pr9 := prr.below hb79
      have pw9 := pw.below hb9
      have hRow : NRow W9 N1 wr.heap.size w7.heap.size (lnames L) := fun hp => by
        obtain ⟨g, cur, e1, g1, g2, g3, g4⟩ := hrow hp
        exact ⟨g, cur, e1, g1, g2, ((below_on hb8 hb9).block g g2).trans g3, g4⟩
      have HST := Lib.hid ((HBo.out.1).below hb79)
      have HROW := Lib.hid hRow
      have hs8 := hb8.size
      have hs9 := hb9.size
      have hb09 := below_on hbr hb79
      have HB09 := Lib.hid hb09
      have hws : w.heap.size ≤ wr.heap.size := hsr
      clear hrow hRow hb7 hb8 hb9 hb79 psr ppr pmr prr pw pm5 pr5 ps pp hb09 hbr
      have cs0 : W9.cell? ⟨Bp + 1, 0, none⟩ = some (.func (.func 30) #[] #[.pointer (some ⟨Bp, 0, none⟩)]) := ps9.cell 0
      go_wp2_with fail
      clear cs0
      refine (wpIn_wide (n := 1)).1 ?_
      have hln : (lnames L).length = ll := by simp [lnames, HLL.out]
      have hPB := HBo.out.2.2.1
      have hMB := HBo.out.2.2.2.1
      have hl40 : ll ≤ 40 := by rw [← HLL.out]; exact HBo.out.2.1.2.2.2.2.1
      refine range_n (Bs := Bp) (L := L) rfl HST.out pp9 rfl (fun b => b = Bk) (fun b e => by omega) (fun _ pre W => Fr W9 W (fun b => b = Bk) ∧ Blk W Bk 3 #[.int .i64 (pre.length : Nat)]) (fun c _ W => c = .exit 2 ∧ Fr W9 W (fun b => b = Bk) ∧ ∃ k : Nat, 0 < k ∧ Blk W Bk 3 #[.int .i64 (k : Nat)])
        ?hI ?hIx ?h0 ?round ?done ?stop
      case hI =>
        rintro B2 s u u' ⟨h1, h2⟩ hab
        exact ⟨h1.step hab (fun k hk => .inr hk.1), hab.blk h2⟩
      case hIx =>
        rintro c s u u' ⟨h0, h1, k, hk, h2⟩ hab
        exact ⟨h0, h1.step hab (fun k hk => .inr hk.1), k, hk, hab.blk h2⟩
      case h0 =>
        intro u hab
        exact ⟨(Fr.refl W9 _).step hab (fun k hk => .inr hk.1), hab.blk pkb⟩
      case round =>
        rintro mm l B2 r0 pre x W K hsl hB2 hl ⟨hFk, hk⟩ hnx hK
        gi_wp2
        refine hK _ _ (KeepsFrom.refl _ _) (Kb.refl _ _ _) (fun r' => ?_)
        have hab := abN_put W (.loop r') hsl hl rfl
        obtain ⟨V, hV⟩ : ∃ V, W.putObj l (.loop r') = V := ⟨_, rfl⟩
        rw [hV] at hab ⊢
        replace hk := hab.blk hk
        replace hFk : Fr W9 V (fun b => b = Bk) := hFk.step hab (fun k hk => .inr hk.1)
        obtain ⟨hn1, hn2, hn3⟩ := hnx
        obtain ⟨kk, hkk⟩ : ∃ kk, pre.length = kk := ⟨_, rfl⟩
        rw [hkk] at hk hn1 hn3
        rw [hln] at hn1
        obtain ⟨g, cur, rfl, hg1, hg2, hg3, hg4⟩ := HROW.out (by rw [hln]; omega)
        have hgr : V.heap[g]? = some (.cells cur 9 (0, 0)) := (hFk.block g (by omega) (by show ¬ g = Bk; omega)).trans hg3
        have e0 : V.cell? ⟨g, kk, none⟩ = some (.string x) := by rw [cell_of_row _ _ _ _ _ _ hgr, hg4 kk (by rw [hln]; exact hn1), hn3]
        have pwv := hFk.blk pw9 (by show ¬ Bw = Bk; omega)
        have pmv := hFk.blk pm9 (by show ¬ Bm = Bk; omega)
        have psv := hFk.blk ps9 (by show ¬ Bp + 1 = Bk; omega)
        have ppv := hFk.blk pp9 (by show ¬ Bp = Bk; omega)
        have ck := hk.cell 0
        have cw := pwv.cell 0
        have cm := pmv.cell 0
        have cs := psv.cell 0
        have fk := hk.free 0
        simp only [List.getElem?_toArray, List.getElem?_cons_zero] at ck cw cm cs
        have d1 : decide (ll ≤ kk) = false := decide_eq_false (by omega)
        have hk0 : (0 : Int) ≤ kk := by omega
        have hk1 : (kk : Int) < ll := by omega
        have HKK := Lib.hid hkk
        have HLV : Hid (V.heap[l]? = some (.loop r')) := Lib.hid (by rw [← hV]; exact World.putObj_heap_same (Array.getElem?_eq_some_iff.1 hl).1)
        have HSL := Lib.hid hsl
        clear hkk hn2 hn3 hg1 hg3 hg4 hgr hV hab hK hl
        gi_wp2
        obtain ⟨z5, hz5⟩ : ∃ y, pk z 5 = y := ⟨_, rfl⟩
        have HPK := Lib.hid (fun (w : World) => pick_l w z 5 (by decide))
        rw [hz5] at HPK
        clear hz5
        gi_region_with ((refine ⟨trivial, fun h => (by cases h), ?_⟩; gi_at_call 17; refine (callsIn_wide.2 (HPK.out _)).mono ?_; rintro e w2 ⟨rfl, rfl⟩))
        all_goals
          obtain ⟨V2, hV2⟩ : ∃ W, (V.setCell ⟨Bk, 0, none⟩ (.int .i64 ((kk : Int) + 1))).drew = W := ⟨_, rfl⟩
          rw [hV2]
          have hfr : Fr V V2 (fun b => b = Bk) := by rw [← hV2]; exact ((Fr.refl V (fun b => b = Bk)).set (b := Bk) (.inl rfl) 0 (.int .i64 ((kk : Int) + 1))).drew
          have hk2 : Blk V2 Bk 3 #[.int .i64 ((kk + 1 : Nat) : Int)] := by rw [← hV2, show ((kk + 1 : Nat) : Int) = (kk : Int) + 1 by omega]; exact hk.put 0 _
          obtain ⟨hkA, hkB⟩ := kb_fr (B := B2) (B0 := W9.heap.size) (E := fun b => b = Bk) hfr (fun b hb _ => by
            have hb : b = Bk := hb
            rw [hb]
            exact ⟨.inl rfl, _, _, _, hk⟩)
          have hF2 : Fr W9 V2 (fun b => b = Bk) := hFk.step hfr (fun k hk => .inl hk)
          clear ck cw cm cs fk e0 hV2
          by_cases hbk : z5 < (kk : Int) + 1
          · have d2 : decide (z5 < (kk : Int) + 1) = true := decide_eq_true hbk
            have HE := Lib.hid (show KeepsFrom W9.heap.size V V2 ∧ Kb B2 (fun b => b = Bk) V V2 ∧ (Code.exit 2 = Code.exit 2 ∧ Fr W9 V2 (fun b => b = Bk) ∧ ∃ k : Nat, 0 < k ∧ Blk V2 Bk 3 #[.int .i64 (k : Nat)]) from ⟨hkA, hkB, rfl, hF2, kk + 1, by omega, hk2⟩)
            clear hkA hkB hF2 hk2 hfr
            gi_wp2
            exact ⟨HE.out.1, HE.out.2.1, rfl, HE.out.2.2.2⟩
          · have d2 : decide (z5 < (kk : Int) + 1) = false := decide_eq_false hbk
            have hl2 : V2.heap[l]? = some (.loop r') := hkA.same l _ HSL.out HLV.out rfl
            have ps2 := hF2.blk ps9 (by show ¬ Bp + 1 = Bk; omega)
            have pp2 := hF2.blk pp9 (by show ¬ Bp = Bk; omega)
            have pw2 := hF2.blk pw9 (by show ¬ Bw = Bk; omega)
            have cs2 := ps2.cell 0
            simp only [List.getElem?_toArray, List.getElem?_cons_zero] at cs2
            obtain ⟨V3, hV3, pj, hb3⟩ := made_blk V2 #[.int .i64 0] 3
            obtain ⟨Bj, hBj⟩ : ∃ b, b = V2.heap.size := ⟨_, rfl⟩
            have HKA := Lib.hid hkA
            have HKB := Lib.hid hkB
            have cs3 := keep_cell cs2 (below_alloc1 V2 (.cells #[.int .i64 0] 3))
            have HV3 := Lib.hid hV3
            clear hkA hkB cs2 hV3 hBj
            gi_wp2
            rw [← HV3.out]
            obtain ⟨Bj, hBj⟩ : ∃ b, V2.heap.size = b := ⟨_, rfl⟩
            have hj1 := pj.lt
            rw [hBj] at pj hj1 ⊢
            have hl3 := (hb3.block l (Array.getElem?_eq_some_iff.1 hl2).1).trans hl2
            have hF3 : Fr W9 V3 (fun b => b = Bk) := hF2.below hb3
            have hs2 := hF2.size
            have HS3 : Hid (StoreAt V3 P M (Mx wr B v (fun _ => True)) L) := Lib.hid (HST.out.turn hF3 (by show ¬ P = Bk; omega) (by show ¬ M = Bk; omega) (fun b _ hR => ⟨hR, by have := hR.2.1; show ¬ b = Bk; omega⟩) (fun e => by have := e.1; omega) (fun e => by have := e.1; omega))
            refine range_nN (Bs := Bp) (L := L) hl3 rfl HS3.out (pp2.below hb3) rfl (fun b => b = Bj) (fun b e => by have e : b = Bj := e; omega) (fun _ pre2 U => Fr V3 U (fun b => b = Bj) ∧ Blk U Bj 3 #[.int .i64 (pre2.length : Nat)]) (fun _ _ _ => False)
              ?_ (fun _ _ _ _ h _ => h) ?_ ?_ ?_ (fun _ _ _ _ h => h.elim)
            · rintro B3 s u u' ⟨h1, h2⟩ hab
              exact ⟨h1.step hab (fun k hk => .inr hk.1), hab.blk h2⟩
            · intro u hab
              exact ⟨(Fr.refl V3 _).step hab (fun k hk => .inr hk.1), hab.blk pj⟩
            · rintro m2 l2 B3 r2 pre2 y U K2 hsl2 hB3 hlr2 ⟨hFj, hj⟩ hny hK2
              gi_wp2
              refine hK2 _ _ (KeepsFrom.refl _ _) (Kb.refl _ _ _) (fun r3 => ?_)
              have hab2 := abN_put U (.loop r3) hsl2 hlr2 rfl
              obtain ⟨U2, hU2⟩ : ∃ U2, U.putObj l2 (.loop r3) = U2 := ⟨_, rfl⟩
              rw [hU2] at hab2 ⊢
              replace hj := hab2.blk hj
              replace hFj : Fr V3 U2 (fun b => b = Bj) := hFj.step hab2 (fun k hk => .inr hk.1)
              obtain ⟨m1, m2', m3⟩ := hny
              obtain ⟨jj, hjj⟩ : ∃ jj, pre2.length = jj := ⟨_, rfl⟩
              rw [hjj] at hj m1 m3
              rw [hln] at m1
              obtain ⟨g', cur', eg, hg1, hg2, hg3, hg4⟩ := HROW.out (by rw [hln]; omega)
              injection eg with eg
              injection eg with eg
              subst eg
              have hs3 := hb3.size
              have hg3V : V3.heap[g]? = some (.cells cur' 9 (0, 0)) := (hF3.block g (by omega) (by show ¬ g = Bk; omega)).trans hg3
              have hgr : U2.heap[g]? = some (.cells cur' 9 (0, 0)) := (hFj.block g (by omega) (by show ¬ g = Bj; omega)).trans hg3V
              have e0 : U2.cell? ⟨g, jj, none⟩ = some (.string y) := by rw [cell_of_row _ _ _ _ _ _ hgr, hg4 jj (by rw [hln]; exact m1), m3]
              have pwu := hFj.blk (hF3.blk pw9 (by show ¬ Bw = Bk; omega)) (by show ¬ Bw = Bj; omega)
              have cj := hj.cell 0
              have cw := pwu.cell 0
              have fj := hj.free 0
              simp only [List.getElem?_toArray, List.getElem?_cons_zero] at cj cw
              have d1 : decide (ll ≤ jj) = false := decide_eq_false (by omega)
              have hj0 : (0 : Int) ≤ jj := by omega
              have hj2 : (jj : Int) < ll := by omega
              have HJJ := Lib.hid hjj
              clear hjj m2' m3 hg1 hg3 hg4 hgr hg3V hU2 hab2 hK2
              gi_wp2
              obtain ⟨U3, hU3⟩ : ∃ W, U2.setCell ⟨Bj, 0, none⟩ (.int .i64 ((jj : Int) + 1)) = W := ⟨_, rfl⟩
              rw [hU3]
              have hfr2 : Fr U2 U3 (fun b => b = Bj) := by rw [← hU3]; exact (Fr.refl U2 (fun b => b = Bj)).set (b := Bj) (.inl rfl) 0 (.int .i64 ((jj : Int) + 1))
              obtain ⟨iA, iB⟩ := kb_fr (B := B3) (B0 := V3.heap.size) (E := fun b => b = Bj) hfr2 (fun b hb _ => by
                have hb : b = Bj := hb
                rw [hb]
                exact ⟨.inl rfl, _, _, _, hj⟩)
              refine ⟨iA, iB, hFj.step hfr2 (fun k hk => .inl hk), ?_⟩
              rw [List.length_append, HJJ.out, ← hU3, show ((jj + [y].length : Nat) : Int) = (jj : Int) + 1 by simp]
              exact hj.put 0 _
            · rintro B' W hB' ⟨hFj, hj⟩
              rw [hln] at hj
              have pw3 := hFj.blk (hF3.blk pw9 (by show ¬ Bw = Bk; omega)) (by show ¬ Bw = Bj; omega)
              have cj := hj.cell 0
              have cw := pw3.cell 0
              simp only [List.getElem?_toArray, List.getElem?_cons_zero] at cj cw
              have hsv := hfr.size
              have hfr3 : Fr V W (fun b => b = Bk) := (hfr.below hb3).step hFj (fun k hk => .inr (by have : k = Bj := hk; omega))
              obtain ⟨kA, kB⟩ := kb_fr (B := B2) (B0 := W9.heap.size) (E := fun b => b = Bk) hfr3 (fun b hb _ => by
                have hb : b = Bk := hb
                rw [hb]
                exact ⟨.inl rfl, _, _, _, hk⟩)
              have hk3 := hFj.blk (hk2.below hb3) (by show ¬ Bk = Bj; omega)
              have hF4 : Fr W9 W (fun b => b = Bk) := hFk.step hfr3 (fun k hk => .inl hk)
              have HE := Lib.hid (show KeepsFrom W9.heap.size V W ∧ Kb B2 (fun b => b = Bk) V W ∧ Fr W9 W (fun b => b = Bk) ∧ Blk W Bk 3 #[.int .i64 ((pre ++ [x]).length : Nat)] from ⟨kA, kB, hF4, by rw [List.length_append, HKK.out]; exact hk3⟩)
              clear kA kB hF4 hk3 hfr3 hFj hj pw3 hj1 hBj hl3
              gi_wp2
              exact HE.out
      case done =>
        rintro D B2 W hD hB2 ⟨hFk, hk⟩ hK
        have ck := hk.cell 0
        have pwv := hFk.blk pw9 (by omega)
        have prv := hFk.blk pr9 (by omega)
        have cw := pwv.cell 0
        have fr := prv.free 0
        have cr := prv.cell 0
        simp only [List.getElem?_toArray, List.getElem?_cons_zero] at ck cw cr
        rw [hln] at ck
        have hDne : D ≠ Bm + 1 := by omega
        have hKD := (Below.heap_setCell W ⟨Bm + 1, 0, none⟩ (.bool true) D hDne).trans hK
        have hab := abN_put (B := W9.heap.size) (W.setCell ⟨Bm + 1, 0, none⟩ (.bool true)) (.deferred none) hD hKD rfl
        have hbW : Below w.heap.size w W := below_fr HB09.out hFk (fun k e => by omega)
        have hbf : Below w.heap.size w (W.setCell ⟨Bm + 1, 0, none⟩ (.bool true)) := hbW.setCell (by show _ ≤ Bm + 1; omega) _
        have hcE := (hab.blk (prv.put 0 (.bool true))).cell 0
        simp only [List.getElem?_toArray, List.getElem?_cons_zero, List.setIfInBounds_toArray, List.set_cons_zero] at hcE
        have HCE := Lib.hid hcE
        have HBF := Lib.hid (hab.upto hbf (by omega) hbf.size)
        have HKD := Lib.hid hKD
        clear hcE hab hbf hbW hK hKD hFk hk pwv prv
        rcases Nat.eq_zero_or_pos ll with h0 | h0
        · have e1 : ((ll : Int) == 0) = true := by simp [h0]
          clear h0
          go_wp2_with fail
          refine ⟨by simp, .inl ⟨_, _, rfl, run_takeDeferred HKD.out, ?_⟩⟩
          exact ⟨_, results_bool rfl _ _ (Bm + 1) true rfl HCE.out, rfl, HBF.out⟩
        · have e1 : ((ll : Int) == 0) = false := by simp; omega
          have e2 : decide (0 < ll) = true := decide_eq_true h0
          go_wp2_with fail
          refine ⟨by simp, .inl ⟨_, _, rfl, run_takeDeferred HKD.out, ?_⟩⟩
          exact ⟨_, results_bool rfl _ _ (Bm + 1) true rfl HCE.out, rfl, HBF.out⟩
      case stop =>
        rintro D c2 k W hD hkl2 ⟨rfl, hFk, k2, hk2, hk⟩ hK
        have ck := hk.cell 0
        have pwv := hFk.blk pw9 (by omega)
        have prv := hFk.blk pr9 (by omega)
        have cw := pwv.cell 0
        have fr := prv.free 0
        have cr := prv.cell 0
        simp only [List.getElem?_toArray, List.getElem?_cons_zero] at ck cw cr
        have hDne : D ≠ Bm + 1 := by omega
        have hKD := (Below.heap_setCell W ⟨Bm + 1, 0, none⟩ (.bool true) D hDne).trans hK
        have hab := abN_put (B := W9.heap.size) (W.setCell ⟨Bm + 1, 0, none⟩ (.bool true)) (.deferred none) hD hKD rfl
        have hbW : Below w.heap.size w W := below_fr HB09.out hFk (fun k e => by omega)
        have hbf : Below w.heap.size w (W.setCell ⟨Bm + 1, 0, none⟩ (.bool true)) := hbW.setCell (by show _ ≤ Bm + 1; omega) _
        have hcE := (hab.blk (prv.put 0 (.bool true))).cell 0
        simp only [List.getElem?_toArray, List.getElem?_cons_zero, List.setIfInBounds_toArray, List.set_cons_zero] at hcE
        have HCE := Lib.hid hcE
        have HBF := Lib.hid (hab.upto hbf (by omega) hbf.size)
        have HKD := Lib.hid hKD
        clear hcE hab hbf hbW hK hKD hFk hk pwv prv
        refine wpIn_wide.2 ?_
        have e2 : decide (0 < k2) = true := decide_eq_true hk2
        rcases Nat.eq_zero_or_pos ll with h0 | h0
        · have e1 : ((ll : Int) == 0) = true := by simp [h0]
          clear h0
          go_wp2_with fail
          refine ⟨by simp, .inl ⟨_, _, rfl, run_takeDeferred HKD.out, ?_⟩⟩
          exact ⟨_, results_bool rfl _ _ (Bm + 1) true rfl HCE.out, rfl, HBF.out⟩
        · have e1 : ((ll : Int) == 0) = false := by simp; omega
          go_wp2_with fail
          refine ⟨by simp, .inl ⟨_, _, rfl, run_takeDeferred HKD.out, ?_⟩⟩
          exact ⟨_, results_bool rfl _ _ (Bm + 1) true rfl HCE.out, rfl, HBF.out⟩
theorem names_walk (w : World) (v : Value) (xs : List Stp) (h : StepsIn w v xs) (z : Int) :
    Calls Try.prog 4 #[v, .int .i64 z] w fun e w' => e = .returned (.bool true) ∧ Below w.heap.size w w' := callsIn_wide.1 (names_law 1 w v xs h z)
end Go.Proofs.Ytmncamnlmpajbaa

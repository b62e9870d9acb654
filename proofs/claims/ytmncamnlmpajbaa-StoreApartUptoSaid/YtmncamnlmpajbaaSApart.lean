/-
  Two pairs of stores: the walk of StoreApart.
-/
import Derived.Test.YtmncamnlmpajbaaSSame
namespace Go.Proofs.Ytmncamnlmpajbaa
open Go.RowKit Go.Maps Go.WideMaps Go.Op

theorem StepAt.below {w w' : World} {R : Nat → Prop} {b o : Nat} {x : Stp} (h : StepAt w R b o x) (hb : Below w.heap.size w w') : StepAt w' R b o x := ⟨keep_cell h.1 hb, keep_cell h.2.1 hb, h.2.2.1.below hb, h.2.2.2⟩
/-- The stores at the start. -/
theorem both_new {w1 w3 : World} {P M Q : Nat} {Y : Nat → Prop} (hst : ∀ R : Nat → Prop, ¬ R P → ¬ R M → StoreAt w1 P M R []) (hb : Below w1.heap.size w1 w3) (hP : P < w3.heap.size) (hM : M < w3.heap.size) (hQP : Q ≠ P) (hQM : Q ≠ M) (hQ : Blk w3 Q 41 #[.slice none 0 0]) : Both w3 P M Q w3.heap.size (.slice none 0 0) Y [] :=
  ⟨(hst _ (fun e => by have := e.1; omega) (fun e => by have := e.1; omega)).below hb, RSt.new w3 Q w3.heap.size Y hQ.lt hQ, hP, hM, hQP, hQM, Nat.le_refl _, fun p hp => by cases hp⟩
theorem Both.fr2 {w w' : World} {P M Q B : Nat} {v : Value} {Y Y' : Nat → Prop} {L : Kl} (h : Both w P M Q B v Y L) {x : Nat → Prop} (hF : Fr w w' x) (hP : ¬ x P) (hM : ¬ x M) (hQ : ¬ x Q) (hv : ∀ b, v.ownBlock = some b → ¬ x b) (hY : ∀ b, b < w.heap.size → B ≤ b → v.ownBlock ≠ some b → Y b → Y' b ∧ ¬ x b) : Both w' P M Q B v Y' L := by
  obtain ⟨h1, h2, h3, h4, h5, h6, h7, h8⟩ := h
  have hs := hF.size
  exact ⟨h1.turn hF hP hM (fun b hb hR => ⟨⟨hR.1, by omega, hR.2.2.1, (hY b hb hR.1 hR.2.2.1 hR.2.2.2).1⟩, (hY b hb hR.1 hR.2.2.1 hR.2.2.2).2⟩) (fun e => by have := e.1; omega) (fun e => by have := e.1; omega), h2.turn hF hQ hv (fun b hb h1 h2 h3 => hY b hb h1 h2 h3), h3, h4, h5, h6, by omega, h8⟩
/-- Two pairs side by side: none's row is the other's, none's trees lie in the other's row. -/
def Two (w : World) (P1 M1 Q1 P2 M2 Q2 B : Nat) (v1 v2 : Value) (L1 L2 : Kl) : Prop :=
  Both w P1 M1 Q1 B v1 (fun b => v2.ownBlock ≠ some b) L1 ∧ Both w P2 M2 Q2 B v2 (fun b => v1.ownBlock ≠ some b) L2 ∧ ∀ b, v1.ownBlock = some b → v2.ownBlock ≠ some b
theorem Two.swap {w : World} {P1 M1 Q1 P2 M2 Q2 B : Nat} {v1 v2 : Value} {L1 L2 : Kl} (h : Two w P1 M1 Q1 P2 M2 Q2 B v1 v2 L1 L2) : Two w P2 M2 Q2 P1 M1 Q1 B v2 v1 L2 L1 := ⟨h.2.1, h.1, fun b e e' => h.2.2 b e' e⟩
theorem Two.below {w w' : World} {P1 M1 Q1 P2 M2 Q2 B : Nat} {v1 v2 : Value} {L1 L2 : Kl} (h : Two w P1 M1 Q1 P2 M2 Q2 B v1 v2 L1 L2) (hb : Below w.heap.size w w') : Two w' P1 M1 Q1 P2 M2 Q2 B v1 v2 L1 L2 := ⟨h.1.below hb, h.2.1.below hb, h.2.2⟩
/-- All the stores' own blocks that lie below B. -/
def Six (P1 M1 Q1 P2 M2 Q2 : Nat) : Nat → Prop := fun b => b = P1 ∨ b = M1 ∨ b = Q1 ∨ b = P2 ∨ b = M2 ∨ b = Q2
/-- What is apart. -/
def Afar (P1 M1 Q1 P2 M2 Q2 : Nat) : Prop := (P2 ≠ P1 ∧ P2 ≠ M1 ∧ P2 ≠ Q1) ∧ (M2 ≠ P1 ∧ M2 ≠ M1 ∧ M2 ≠ Q1) ∧ (Q2 ≠ P1 ∧ Q2 ≠ M1 ∧ Q2 ≠ Q1)
theorem Afar.swap {P1 M1 Q1 P2 M2 Q2 : Nat} (h : Afar P1 M1 Q1 P2 M2 Q2) : Afar P2 M2 Q2 P1 M1 Q1 := by
  unfold Afar at *
  omega
/-- A step of the first pair. -/
theorem two_step {w w' : World} {P1 M1 Q1 P2 M2 Q2 B : Nat} {v1 v2 : Value} {L1 L2 : Kl} (h : Two w P1 M1 Q1 P2 M2 Q2 B v1 v2 L1 L2) (ho : Afar P1 M1 Q1 P2 M2 Q2) (ha : After w P1 M1 Q1 B v1 (fun b => v2.ownBlock ≠ some b) w') :
    ∃ v1' L1', Two w' P1 M1 Q1 P2 M2 Q2 B v1' v2 L1' L2 ∧ Fr w w' (Hit P1 M1 Q1 v1) := by
  obtain ⟨v1', L1', h1, hF, hv⟩ := ha
  have hQ1 : Q1 < B := h.1.2.1.1
  have hQ2 : Q2 < B := h.2.1.2.1.1
  have hP1 := h.1.2.2.1
  have hM1 := h.1.2.2.2.1
  have hP2 := h.2.1.2.2.1
  have hM2 := h.2.1.2.2.2.1
  have r1 := h.1.row
  have r2 := h.2.1.row
  obtain ⟨o1, o2, o3⟩ := ho
  have hlow : ∀ b, B ≤ b → v1.ownBlock ≠ some b → ¬ Hit P1 M1 Q1 v1 b := fun b hb hn e => by
    rcases e with e | e | e | e
    · omega
    · omega
    · omega
    · exact hn e
  have hown : ∀ b, b < B → b ≠ P1 → b ≠ M1 → b ≠ Q1 → ¬ Hit P1 M1 Q1 v1 b := fun b hb n1 n2 n3 e => by
    rcases e with e | e | e | e
    · exact n1 e
    · exact n2 e
    · exact n3 e
    · have := (r1 b e).1; omega
  refine ⟨v1', L1', ⟨h1, h.2.1.fr2 hF (hown _ hP2 o1.1 o1.2.1 o1.2.2) (hown _ hM2 o2.1 o2.2.1 o2.2.2) (hown _ hQ2 o3.1 o3.2.1 o3.2.2) (fun b e => hlow b (r2 b e).1 (fun e' => h.2.2 b e' e)) (fun b hb h1 _ hy => ⟨fun e => ?_, hlow b h1 hy⟩), fun b e e2 => ?_⟩, hF⟩
  · rcases hv b e with e | e
    · exact hy e
    · omega
  · rcases hv b e with e | e
    · exact h.2.2 b e e2
    · have := (r2 b e2).2; omega
theorem two_fr {w3 wr w5 : World} {P1 M1 Q1 P2 M2 Q2 : Nat} {v1 : Value} (hF : Fr w3 wr (Six P1 M1 Q1 P2 M2 Q2)) (hF5 : Fr wr w5 (Hit P1 M1 Q1 v1)) (hrow : ∀ b, v1.ownBlock = some b → w3.heap.size ≤ b) : Fr w3 w5 (Six P1 M1 Q1 P2 M2 Q2) := hF.step hF5 (fun k hk => by
  rcases hk with e | e | e | e
  · exact .inl (.inl e)
  · exact .inl (.inr (.inl e))
  · exact .inl (.inr (.inr (.inl e)))
  · exact .inr (hrow k e))
theorem Six.swap {P1 M1 Q1 P2 M2 Q2 b : Nat} (h : Six P1 M1 Q1 P2 M2 Q2 b) : Six P2 M2 Q2 P1 M1 Q1 b := by
  unfold Six at *
  omega
/-- A store that is none. -/
theorem len_nil (w : World) : Calls Try.prog 11 #[.pointer none] w fun e w' => e = .returned (.int .i64 0) ∧ w' = w := by
  go_enter Try.func11, Try.ntmps11
  go_wp2_with fail
  go_ret
  exact ⟨rfl, rfl⟩
theorem nodes_nil (w : World) : Calls Try.prog 12 #[.pointer none] w fun e w' => e = .returned (.int .i64 0) ∧ w' = w := by
  go_enter Try.func12, Try.ntmps12
  go_wp2_with fail
  go_ret
  exact ⟨rfl, rfl⟩
theorem drop_nil (w : World) (nm : ByteArray) : Calls Try.prog 23 #[.pointer none, .string nm] w fun e w' => e = .returned (.int .i64 1) ∧ Below w.heap.size w w' := by
  go_enter Try.func23, Try.ntmps23
  go_wp2_with fail
  go_ret
  first
    | exact ⟨rfl, Below.refl _ _⟩
    | exact ⟨rfl, below_alloc1 _ _⟩
theorem put_nil (w : World) (nm : ByteArray) (v0 v1 v2 v3 v4 v5 : Value) : Calls Try.prog 20 #[.pointer none, .string nm, .agg #[v0, v1, v2, v3, v4, v5]] w fun e w' => e = .returned (.int .i64 1) ∧ Below w.heap.size w w' := by
  go_enter Try.func20, Try.ntmps20
  go_wp2_with fail
  go_ret
  first
    | exact ⟨rfl, below_alloc1 _ _⟩
    | exact ⟨rfl, Below.refl _ _⟩
set_option maxRecDepth 100000 in
theorem get_nil (w : World) (nm : ByteArray) : Calls Try.prog 19 #[.pointer none, .string nm] w fun e w' => e = .returned (.tuple #[.agg #[.int .i64 0, .string ⟨#[]⟩, .slice none 0 0, .bool false, .slice none 0 0, .slice none 0 0], .bool false]) ∧ Below w.heap.size w w' := by
  obtain ⟨W1, hW1, pr, hb1⟩ := made_blk w #[.int .i64 0, .string ⟨#[]⟩, .slice none 0 0, .bool false, .slice none 0 0, .slice none 0 0] 35
  go_enter Try.func19, Try.ntmps19
  go_wp2_with fail
  clear hW1 pr hb1
  refine bodyPost_ret (results_tree2 rfl _ _ w.heap.size _ _ _ _ _ _ _ rfl (Blk.new _ _ _)) rfl ?_
  exact ⟨rfl, below_alloc1 _ _⟩
set_option maxRecDepth 100000 in
theorem names1_nil (n Lp Bs : Nat) (w : World) (hBs : Blk w Bs 23 #[.pointer none]) :
    CallsIn Fence.wide n Try.prog 30 #[.func (.yield Lp) #[] #[], .pointer (some ⟨Bs, 0, none⟩)] w fun e w' => (∃ v, e = .returned v) ∧ w' = w := by
  have cB := hBs.cell 0
  simp only [List.getElem?_toArray, List.getElem?_cons_zero] at cB
  refine callsIn_of_wp Try.func30 rfl trivial ?_ rfl
  simp only [Try.ntmps30, List.size_toArray, List.length_cons, List.length_nil, Nat.reduceAdd, Nat.reduceSub, Array.replicate_succ, Array.replicate_zero, List.push_toArray, List.append_toArray, List.nil_append, List.cons_append]
  gi_wp2
  refine bodyPost_ret (results_none rfl _ _ _) rfl ?_
  exact ⟨⟨_, rfl⟩, rfl⟩
set_option maxHeartbeats 1600000 in
/-- A range over the names of a store that is none. -/
theorem range_nil {n Bs : Nat} {g : Operand} {ps : Array Tmp} {assign body : Code} {Q : Exit → Act → World → Prop} {a : Act} {w : World}
    (hg : a.eval g = .func (.func 30) #[] #[.pointer (some ⟨Bs, 0, none⟩)]) (hBs : Blk w Bs 23 #[.pointer none])
    (hdone : ∀ (D : Nat) (W : World), w.heap.size ≤ D → Below w.heap.size w W → W.heap[D]? = some (.deferred (some [])) → Q .normal { a with defers := { target := .collected D, args := #[] } :: a.defers } W) :
    (Code.rangeFunc g ps assign body).wpIn Fence.wide n Try.prog Q a w := by
  refine wpIn_rangeFunc ?_
  intro fn hfn
  rw [show Fence.wide.round = none from rfl]
  obtain ⟨rec, hrec⟩ : ∃ rec : LoopState → Option Code → Loop, rec = fun st pe => { state := st, pending := pe, fn, tmps := a.tmps, params := ps, assign, body, defers := w.heap.size } := ⟨_, rfl⟩
  obtain ⟨W1, hW1⟩ : ∃ W1, (w.alloc (.deferred (some []))).alloc (.loop (rec .ready none)) = W1 := ⟨_, rfl⟩
  have hL1 : W1.heap[(w.heap.size + 1)]? = some (.loop (rec .ready none)) := by
    rw [← hW1]; have := World.alloc_heap_new (w.alloc (.deferred (some []))) (.loop (rec .ready none)); rwa [World.size_alloc] at this
  have hK1 : W1.heap[w.heap.size]? = some (.deferred (some [])) := by
    rw [← hW1]; exact (Below.heap_alloc _ _ _ (by simp)).trans (World.alloc_heap_new w _)
  have hb1 : Below w.heap.size w W1 := by
    rw [← hW1]; exact (((Below.refl _ w).alloc (Nat.le_refl _) _).alloc (by simp) _)
  refine ⟨(w.heap.size + 1), [{ target := .collected w.heap.size, args := #[] }], W1, { target := .fn (.func 30) #[.pointer (some ⟨Bs, 0, none⟩)], args := #[.func (.yield (w.heap.size + 1)) #[] #[]] }, W1, 30,
    #[.func (.yield (w.heap.size + 1)) #[] #[]] ++ #[.pointer (some ⟨Bs, 0, none⟩)], W1, ?_, ?_, ?_, ?_, fun h => (by cases h), ?_⟩
  · rw [← hW1, hrec]; exact run_enterLoop_outer _ _ _ _ _
  · simp only [resolve, hg]
    simp [go_sem]
  · intro f' _; trivial
  · simp [invoke, go_sem]
  · refine CallsIn.mono (names1_nil (n - 1) (w.heap.size + 1) Bs W1 (hBs.below hb1)) ?_
    rintro e W2 ⟨⟨v, rfl⟩, rfl⟩
    refine ⟨none, _, by have := run_endLoop (P := Try.prog) hL1 (by rw [hrec]; simp); rw [hrec] at this; exact this, hdone _ _ (Nat.le_refl _) ?_ ((World.putObj_heap_other (by omega)).trans hK1)⟩
    exact ((Fr.refl w (fun _ => False)).below hb1 |>.grown (grownBy_putObj' _ _ _) (fun k e => by cases e; exact .inr (by omega))).below_of (fun k hk => hk.elim)
set_option maxRecDepth 100000 in
theorem names_nil_in (n : Nat) (w : World) : CallsIn Fence.wide n Try.prog 18 #[.pointer none] w fun e w' => e = .returned (.slice none 0 0) ∧ Below w.heap.size w w' := by
  refine callsIn_of_wp_marks Try.func18 rfl trivial ?_ rfl
  simp only [Try.ntmps18, List.size_toArray, List.length_cons, List.length_nil, Nat.reduceAdd, Nat.reduceSub, Array.replicate_succ, Array.replicate_zero, List.push_toArray, List.append_toArray, List.nil_append, List.cons_append]
  have b0 := Blk.new w 29 #[.slice none 0 0]
  have hb1 := below_alloc1 w (.cells #[.slice none 0 0] 29)
  have b1 := Blk.new (w.alloc (.cells #[.slice none 0 0] 29)) 23 #[.pointer none]
  have hb2 := below_alloc1 (w.alloc (.cells #[.slice none 0 0] 29)) (.cells #[.pointer none] 23)
  simp only [World.size_alloc] at b1
  replace b0 := b0.below hb2
  have hbw := below_on hb1 hb2
  clear hb1 hb2
  gi_wp2_with (refine ⟨trivial, fun h => (by cases h), ?_⟩; gi_at_call 15; refine (callsIn_wide.2 (names_x _ _)).mono ?_; rintro e w2 ⟨rfl, rfl⟩)
  obtain ⟨W0, hW0⟩ : ∃ W0, (w.alloc (.cells #[.slice none 0 0] 29)).alloc (.cells #[.pointer none] 23) = W0 := ⟨_, rfl⟩
  rw [hW0] at b0 b1 hbw ⊢
  clear hW0
  refine range_nil (Bs := w.heap.size + 1) rfl b1 ?done
  case done =>
    intro D W hD hb hK
    have hp := b0.below hb
    have cB := hp.cell 0
    simp only [List.getElem?_toArray, List.getElem?_cons_zero] at cB
    have hab := abN_put (B := W0.heap.size) W (.deferred none) hD hK rfl
    gi_wp2
    refine ⟨by simp, .inl ⟨_, _, rfl, run_takeDeferred hK, ?_⟩⟩
    exact ⟨_, results_tmp rfl _ _ _, rfl, hab.upto (below_on hbw hb) hbw.size (below_on hbw hb).size⟩
theorem names_nil (w : World) : Calls Try.prog 18 #[.pointer none] w fun e w' => e = .returned (.slice none 0 0) ∧ Below w.heap.size w w' := callsIn_wide.1 (names_nil_in 1 w)
/-- The first pair's step, as the law calls it. -/
theorem two_does {w wr : World} {R0 : Nat → Prop} {P1 M1 Q1 P2 M2 Q2 B b o : Nat} {v1 v2 : Value} {L1 L2 : Kl} {x : Stp} (h : Two wr P1 M1 Q1 P2 M2 Q2 B v1 v2 L1 L2) (ho : Afar P1 M1 Q1 P2 M2 Q2) (hR0 : ∀ b, R0 b → b < wr.heap.size ∧ b ≠ P1 ∧ b ≠ M1) (hx : StepAt w R0 b o x) (hb : Below w.heap.size w wr) :
    ∃ A1 c1 A2 c2 A3 c3, (wr.cell? ⟨b, o, none⟩ = some (.int .i64 x.1) ∧ wr.cell? ⟨b, o + 1, none⟩ = some (.string x.2.1) ∧ wr.cell? ⟨b, o + 2, none⟩ = some (.int .i64 x.2.2.k) ∧ wr.cell? ⟨b, o + 3, none⟩ = some (.string x.2.2.nm) ∧ wr.cell? ⟨b, o + 4, none⟩ = some (.slice A1 x.2.2.ns.length c1) ∧ wr.cell? ⟨b, o + 5, none⟩ = some (.bool x.2.2.ng) ∧ wr.cell? ⟨b, o + 6, none⟩ = some (.slice A2 x.2.2.mg.length c2) ∧ wr.cell? ⟨b, o + 7, none⟩ = some (.slice A3 x.2.2.ks.length c3)) ∧
      Hid (Calls Try.prog 10 #[.pointer (some ⟨P1, 0, none⟩), .pointer (some ⟨Q1, 0, none⟩), .agg #[.int .i64 x.1, .string x.2.1, .int .i64 x.2.2.k, .string x.2.2.nm, .slice A1 x.2.2.ns.length c1, .bool x.2.2.ng, .slice A2 x.2.2.mg.length c2, .slice A3 x.2.2.ks.length c3]] wr fun e w' => e = .returned (.bool true) ∧ ∃ v1' L1', Two w' P1 M1 Q1 P2 M2 Q2 B v1' v2 L1' L2 ∧ Fr wr w' (Hit P1 M1 Q1 v1)) := by
  obtain ⟨s0, s1, ⟨A1, c1, A2, c2, A3, c3, ⟨y0, y1, y2, y3, y4, y5⟩, hkin⟩, hnm, hbt⟩ := hx.below hb
  refine ⟨A1, c1, A2, c2, A3, c3, ⟨s0, s1, y0, y1, y2, y3, y4, y5⟩, Lib.hid ((does_l h.1 (fun b hb e => by have := (h.2.1.row b e).2; omega) x.1 x.2.1 hnm x.2.2 hbt R0 hR0 hkin).mono ?_)⟩
  rintro e w' ⟨rfl, ha⟩
  exact ⟨rfl, two_step h ho ha⟩
set_option maxRecDepth 100000 in
set_option maxHeartbeats 12800000 in
theorem apart_walk (w : World) (v : Value) (xs : List Stp) (h : StepsIn w v xs) (v' : Value) (ys : List Stp) (h' : StepsIn w v' ys) : Calls Try.prog 6 #[v, v'] w fun e w' => e = .returned (.bool true) ∧ Below w.heap.size w w' := by
  obtain ⟨A, c, rfl, hcap, hlen, hx⟩ := h
  obtain ⟨A', c', rfl, hcap', hlen', hx'⟩ := h'
  obtain ⟨n, hn⟩ : ∃ n, xs.length = n := ⟨_, rfl⟩
  obtain ⟨m, hm⟩ : ∃ m, ys.length = m := ⟨_, rfl⟩
  rw [hn] at hcap hlen hx ⊢
  rw [hm] at hcap' hlen' hx' ⊢
  have HX := Lib.hid hx
  have HX' := Lib.hid hx'
  clear hn hx hm hx'
  go_enter Try.func6, Try.ntmps6
  go_upto_region 2 with (go_at_call 7; refine (new_s _).mono ?_; rintro e w1 ⟨P1, M1, rfl, hst1, hP1, hM1, hP12, hM12, hb1⟩)
  go_upto_region 3 with (go_at_call 7; refine (new_s _).mono ?_; rintro e w2 ⟨P2, M2, rfl, hst2, hP2, hM2, hP22, hM22, hb2⟩)
  go_upto_region 4 with (go_at_call 8; refine (rnew_s _).mono ?_; rintro e w3 ⟨rfl, rfl⟩)
  obtain ⟨W3, hW3, hqb1, hb3⟩ := made_blk w2 #[.slice none 0 0] 41
  obtain ⟨Q1, hQ⟩ : ∃ Q, Q = w2.heap.size := ⟨_, rfl⟩
  rw [← hW3, ← hQ]
  rw [← hQ] at hqb1
  have hQ1 : w2.heap.size ≤ Q1 := by omega
  clear hW3 hQ
  go_upto_region 5 with (go_at_call 8; refine (rnew_s _).mono ?_; rintro e w4 ⟨rfl, rfl⟩)
  obtain ⟨W4, hW4, hqb2, hb4⟩ := made_blk W3 #[.slice none 0 0] 41
  obtain ⟨Q2, hQ⟩ : ∃ Q, Q = W3.heap.size := ⟨_, rfl⟩
  rw [← hW4, ← hQ]
  rw [← hQ] at hqb2
  have hQ2 : W3.heap.size ≤ Q2 := by omega
  clear hW4 hQ
  go_upto_region 7 with (go_at_call 9; refine (known_l _).mono ?_; rintro e w5 ⟨rfl, hb5⟩)
  have s1 := hb1.size
  have s2 := hb2.size
  have s3 := hb3.size
  have s4 := hb4.size
  have s5 := hb5.size
  have l1 := hqb1.lt
  have l2 := hqb2.lt
  have hb45 := hb5
  have hb35 := below_on hb4 hb5
  have hb25 := below_on hb3 hb35
  have hTw : Two w5 P1 M1 Q1 P2 M2 Q2 w5.heap.size (.slice none 0 0) (.slice none 0 0) [] [] := ⟨both_new hst1 (below_on hb2 hb25) (by omega) (by omega) (by omega) (by omega) (hqb1.below hb35), both_new hst2 hb25 (by omega) (by omega) (by omega) (by omega) (hqb2.below hb5), fun b e => by cases e⟩
  have hoff : Afar P1 M1 Q1 P2 M2 Q2 := by unfold Afar; omega
  have hlo : w.heap.size ≤ P1 ∧ w.heap.size ≤ M1 ∧ w.heap.size ≤ Q1 ∧ w.heap.size ≤ P2 ∧ w.heap.size ≤ M2 ∧ w.heap.size ≤ Q2 := by omega
  obtain ⟨B, hB⟩ : ∃ B, w5.heap.size = B := ⟨_, rfl⟩
  rw [hB] at hTw
  have hb05 := below_on hb1 (below_on hb2 hb25)
  have HTW := Lib.hid hTw
  have HOFF := Lib.hid hoff
  have HB := Lib.hid hB
  have HB5 := Lib.hid hb05
  clear hst1 hP1 hM1 hP12 hM12 hb1 hst2 hP2 hM2 hP22 hM22 hb2 hqb1 hb3 hQ1 hqb2 hb4 hQ2 hb5 s1 s2 s3 s4 s5 l1 l2 hb45 hb35 hb25 hTw hoff hB hb05
  go_wp2_with fail
  go_loopg [9] (n + m + 1) (fun gk v9 wr => ∃ (i : Nat) (v1 v2 : Value) (L1 L2 : Kl), gk + i = n + m + 1 ∧ i ≤ max n m ∧ v9 = .int .i64 (i : Nat) ∧ Two wr P1 M1 Q1 P2 M2 Q2 B v1 v2 L1 L2 ∧ Fr w5 wr (Six P1 M1 Q1 P2 M2 Q2))
  case atStart => exact ⟨0, _, _, [], [], by omega, Nat.zero_le _, rfl, HTW.out, Fr.refl _ _⟩
  case round =>
    obtain ⟨i, v1, v2, L1, L2, hi, hin, rfl, hTw, hF⟩ := hrel
    have hbr : Below w.heap.size w wr := below_fr HB5.out hF (fun k e => by unfold Six at e; omega)
    by_cases h1 : i < n
    · have d1 : decide (i < n) = true := decide_eq_true h1
      obtain ⟨b, o, rfl, hk⟩ := HX.out (by omega)
      obtain ⟨⟨kz, nm, t⟩, hxi⟩ : ∃ x, xs.getD i stp0 = x := ⟨_, rfl⟩
      have hs := hk i h1
      rw [hxi] at hs
      obtain ⟨F1, f1, F2, f2, F3, f3, ⟨x0, x1, x2, x3, x4, x5, x6, x7⟩, HD⟩ := two_does hTw HOFF.out (fun b hb => ⟨Nat.lt_of_lt_of_le hb hbr.size, by omega, by omega⟩) hs hbr
      dsimp only at x0 x1 x2 x3 x4 x5 x6 x7 HD
      have HT := Lib.hid hTw
      have HF := Lib.hid hF
      have HI := Lib.hid hi
      have hi0 : (0 : Int) ≤ i := by omega
      have hi1 : (i : Int) < n := by omega
      clear hk hxi hs hTw hF hi
      by_cases h2 : i < m
      · have d2 : decide (i < m) = true := decide_eq_true h2
        have hi2 : (i : Int) < m := by omega
        obtain ⟨b', o', rfl, hk'⟩ := HX'.out (by omega)
        obtain ⟨⟨kz', nm', t'⟩, hyi⟩ : ∃ x, ys.getD i stp0 = x := ⟨_, rfl⟩
        have hs' := hk' i h2
        rw [hyi] at hs'
        have HS' := Lib.hid hs'
        clear hk' hyi hs'
        go_wp2_with (first
          | (have _m := mkA; go_at_call 10; refine HD2.out.mono ?_; rintro e w7 ⟨rfl, v2', L2', hT7, hF7⟩; clear z0 z1 z2 z3 z4 z5 z6 z7; have HT7 := Lib.hid hT7; have HF7 := Lib.hid (two_fr (hF6.wide (fun b e => Six.swap e)) hF7 (fun k e => by have := (hT6.2.1.row k e).1; have := HB.out; omega)); clear hT7 hF7)
          | (go_at_call 10; refine HD.out.mono ?_; rintro e w6 ⟨rfl, v1', L1', hT6, hF61⟩; have hF6 := two_fr HF.out hF61 (fun k e => by have := (HT.out.1.row k e).1; have := HB.out; omega); have hb6 : Below w.heap.size w w6 := below_fr HB5.out hF6 (fun k e => by unfold Six at e; omega); have mkA : True := trivial; clear x0 x1 x2 x3 x4 x5 x6 x7; obtain ⟨E1, e1, E2, e2, E3, e3, ⟨z0, z1, z2, z3, z4, z5, z6, z7⟩, HD2⟩ := two_does hT6.swap HOFF.out.swap (fun b hb => ⟨Nat.lt_of_lt_of_le hb hb6.size, by omega, by omega⟩) HS'.out hb6; dsimp only at z0 z1 z2 z3 z4 z5 z6 z7 HD2))
        go_roundg (n + m - i)
        case measure => have := HI.out; omega
        case rel => exact ⟨i + 1, v1', v2', L1', L2', by have := HI.out; omega, by omega, by go_num, HT7.out.swap, HF7.out.wide (fun b e => Six.swap e)⟩
      · have d2 : decide (i < m) = false := decide_eq_false h2
        go_wp2_with (go_at_call 10; refine HD.out.mono ?_; rintro e w6 ⟨rfl, v1', L1', hT6, hF61⟩; have HF6 := Lib.hid (two_fr HF.out hF61 (fun k e => by have := (HT.out.1.row k e).1; have := HB.out; omega)); have HT6 := Lib.hid hT6; clear x0 x1 x2 x3 x4 x5 x6 x7; clear hT6 hF61)
        go_roundg (n + m - i)
        case measure => have := HI.out; omega
        case rel => exact ⟨i + 1, v1', v2, L1', L2, by have := HI.out; omega, by omega, by go_num, HT6.out, HF6.out⟩
    · have d1 : decide (i < n) = false := decide_eq_false h1
      by_cases h2 : i < m
      · have d2 : decide (i < m) = true := decide_eq_true h2
        have hi0 : (0 : Int) ≤ i := by omega
        have hi2 : (i : Int) < m := by omega
        obtain ⟨b', o', rfl, hk'⟩ := HX'.out (by omega)
        obtain ⟨⟨kz', nm', t'⟩, hyi⟩ : ∃ x, ys.getD i stp0 = x := ⟨_, rfl⟩
        have hs' := hk' i h2
        rw [hyi] at hs'
        obtain ⟨E1, e1, E2, e2, E3, e3, ⟨z0, z1, z2, z3, z4, z5, z6, z7⟩, HD2⟩ := two_does hTw.swap HOFF.out.swap (fun b hb => ⟨Nat.lt_of_lt_of_le hb hbr.size, by omega, by omega⟩) hs' hbr
        dsimp only at z0 z1 z2 z3 z4 z5 z6 z7 HD2
        have HT := Lib.hid hTw
        have HF := Lib.hid hF
        have HI := Lib.hid hi
        clear hk' hyi hs' hTw hF hi
        go_wp2_with (go_at_call 10; refine HD2.out.mono ?_; rintro e w6 ⟨rfl, v2', L2', hT6, hF61⟩; have HF6 := Lib.hid (two_fr (HF.out.wide (fun b e => Six.swap e)) hF61 (fun k e => by have := (HT.out.2.1.row k e).1; have := HB.out; omega)); have HT6 := Lib.hid hT6; clear z0 z1 z2 z3 z4 z5 z6 z7; clear hT6 hF61)
        go_roundg (n + m - i)
        case measure => have := HI.out; omega
        case rel => exact ⟨i + 1, v1, v2', L1, L2', by have := HI.out; omega, by omega, by go_num, HT6.out.swap, HF6.out.wide (fun b e => Six.swap e)⟩
      · have d2 : decide (i < m) = false := decide_eq_false h2
        have HT := Lib.hid hTw
        clear hTw hF hi
        go_upto_region 14 with (go_at_call 19; refine (get_nil _ _).mono ?_; rintro e w6 ⟨rfl, hb6⟩)
        obtain ⟨W7, hW7, _, hb7⟩ := made_blk w6 #[.int .i64 0, .string ⟨#[]⟩, .slice none 0 0, .bool false, .slice none 0 0, .slice none 0 0] 35
        rw [← hW7]
        clear hW7
        go_wp2_with (first
          | (go_at_call 20; refine (put_nil _ _ _ _ _ _ _ _).mono ?_; rintro e w8 ⟨rfl, hb8⟩)
          | (go_at_call 23; refine (drop_nil _ _).mono ?_; rintro e w9 ⟨rfl, hb9⟩)
          | (go_at_call 11; refine (len_nil _).mono ?_; rintro e w9 ⟨rfl, rfl⟩)
          | (go_at_call 12; refine (nodes_nil _).mono ?_; rintro e w9 ⟨rfl, rfl⟩)
          | (go_at_call 15; refine (names_x _ _).mono ?_; rintro e w10 ⟨rfl, rfl⟩; have hfn := func_neq (.func 30) #[] #[.pointer (some ⟨w9.heap.size, 0, none⟩)] (w9.alloc (.cells #[.pointer none] 23)))
          | (go_at_call 18; refine (names_nil _).mono ?_; rintro e w11 ⟨rfl, hb11⟩; have hA : Below wr.heap.size wr w11 := below_on hb6 (below_on hb7 (below_on hb8 (below_on hb9 (below_on (below_alloc1 _ _) hb11)))); clear hfn)
          | (have _m := mkS; go_at_call 14; refine (same_l (HT.out.2.1.below (below_on hA hb12))).mono ?_; rintro e w13 ⟨rfl, hb13⟩)
          | (go_at_call 14; refine (same_l (HT.out.1.below hA)).mono ?_; rintro e w12 ⟨rfl, hb12⟩; have mkS : True := trivial))
        go_ret
        exact ⟨rfl, below_on hbr (below_on hA (below_on hb12 hb13))⟩
end Go.Proofs.Ytmncamnlmpajbaa

/-
  s: the parts QRead YRow of the proof.
-/
import Derived.Test.YthiadenmljbdaaaGreatDoorB7s
import Derived.Test.YthiadenmljbdaaaGreatDoorB9s
import Derived.Deep.Cut
import Derived.WalkLawsBesides
import Derived.Laws.AppendOwn
section
namespace Go.Proofs.YthiadenmljbdaaaGreatDoor
open Go.RowKit
attribute [local go_sem] Oper.semAt_some
section
variable {P : Program} {ops : Array Oper} {Q : Exit → Act → World → Prop} {md : Region.Mode} {S : World → Prop}
theorem take_at {fuel : Nat} {listed : Array Bool} {a : Act} {w : World} (i : Nat) (hs : Region.noSelect ops = true) (hf : Region.free md ops listed i = true) (hr : (Region.ready md ops listed).contains i = true)
    (hQ : ∀ c a d v w, Q (.panic c) (a.put d v) w → Q (.panic c) a w) (hex : ∃ o, ops[i]? = some o) (hS : S w)
    (h : ∀ o, ops[i]? = some o → ∃ v, (Region.wanted o (yielded ops a.tmps) = true ∧ ∀ w, S w → (execOp a.eval o).run P w = .ok (.value v) w) ∧ wpAnyH P md ops Q S fuel (listed.setIfInBounds i true) (a.put o.dst v) w) :
    wpAnyH P md ops Q S (fuel + 1) listed a w := by
  obtain ⟨o, ho⟩ := hex
  obtain ⟨v, hy, hrest⟩ := h o ho
  exact wpAnyH_take ho hs hf hr (fun c a w h => hQ c a _ _ w h) (Or.inl hy) hS hrest
theorem ready_at {fuel : Nat} {listed : Array Bool} {a : Act} {w : World} {rs : List Nat} (i : Nat) (hex : ∃ o, ops[i]? = some o)
    (h : ∀ o, ops[i]? = some o → ∀ K' : Act → World → Prop, Shut (∀ a w, S w → (S w → wpAnyH P md ops Q S fuel (listed.setIfInBounds i true) a w) → K' a w) → if Region.wanted o (yielded ops a.tmps) = true then Oper.wp P o a w K' Q else K' (a.put o.dst undef) w)
    (hs : AllReadyH P md ops Q S fuel listed a w rs) : AllReadyH P md ops Q S fuel listed a w (i :: rs) := by
  obtain ⟨o, ho⟩ := hex
  exact AllReadyH.cons ho (h o ho) hs
end
def Lm (w : World) (R0 : Nat → Prop) (A : Option Addr) (c : Nat) (l : List Nat) : Prop :=
  SlR w R0 A c l ∧ c ≤ maxLen ∧ ((A = none ∧ c = 0) ∨ ∃ g cs, A = some ⟨g, 0, none⟩ ∧ R0 g ∧ w.heap[g]? = some (.cells cs 69 (0, 0)) ∧ c ≤ cs.size ∧ ∀ u ∈ cs.toList, ∃ z : Int, u = .int .u32 z)
def Kp (R0 : Nat → Prop) (w w' : World) : Prop := ∀ b o, R0 b → w.heap[b]? = some o → w'.heap[b]? = some o
theorem Kp.cell {R0 : Nat → Prop} {w w' : World} (h : Kp R0 w w') {p : Addr} {v : Value} (hp : R0 p.block) (hc : w.cell? p = some v) : w'.cell? p = some v := by
  have hlt := World.block_lt_of_cell? w p hc
  have he := h p.block _ hp (Array.getElem?_eq_getElem hlt)
  exact (World.cell?_of_block (a := p) (he.trans (Array.getElem?_eq_getElem hlt).symm)).trans hc
theorem Kp.of_fr {R0 x : Nat → Prop} {w w' : World} (h : Fr w w' x) (hx : ∀ b, R0 b → ¬ x b) : Kp R0 w w' := fun b _ hb ho => (h.block b (Array.getElem?_eq_some_iff.1 ho).1 (hx b hb)).trans ho
theorem Kp.of_below {R0 : Nat → Prop} {w w' : World} (h : Below w.heap.size w w') : Kp R0 w w' := fun b _ _ ho => (h.block b (Array.getElem?_eq_some_iff.1 ho).1).trans ho
theorem Kp.trans {R0 : Nat → Prop} {w w' w'' : World} (h : Kp R0 w w') (h' : Kp R0 w' w'') : Kp R0 w w'' := fun b o hb ho => h' b o hb (h b o hb ho)
theorem Lm.keep {w w' : World} {R0 : Nat → Prop} {A : Option Addr} {c : Nat} {l : List Nat} (h : Lm w R0 A c l) (hk : Kp R0 w w') : Lm w' R0 A c l := by
  refine ⟨h.1.keep (fun p v hp hc => hk.cell hp hc) (fun _ h => h), h.2.1, ?_⟩
  rcases h.2.2 with h | ⟨g, cs, h1, h2, h3, h4⟩
  · exact .inl h
  · exact .inr ⟨g, cs, h1, h2, hk g _ h2 h3, h4⟩
theorem Lm.sl {w : World} {R0 : Nat → Prop} {A : Option Addr} {c : Nat} {l : List Nat} (h : Lm w R0 A c l) : Sl w A l.length c l := h.1.1
def Wds (w : World) (R0 : Nat → Prop) (A : Option Addr) (ws : List Wd) : Prop := 0 < ws.length → ∃ g, A = some ⟨g, 0, none⟩ ∧ R0 g ∧ ∀ i, i < ws.length → ∃ B d, w.cell? ⟨g, i * 5, none⟩ = some (.int .i64 ((ws.getD i wd0).1 : Nat)) ∧ w.cell? ⟨g, i * 5 + 1, none⟩ = some (.string (ws.getD i wd0).2.1) ∧
  w.cell? ⟨g, i * 5 + 2, none⟩ = some (.bool false) ∧ w.cell? ⟨g, i * 5 + 3, none⟩ = some (.slice B (ws.getD i wd0).2.2.1.length d) ∧ w.cell? ⟨g, i * 5 + 4, none⟩ = some (.int .i64 ((ws.getD i wd0).2.2.2 : Nat)) ∧ Lm w R0 B d (ws.getD i wd0).2.2.1
theorem Wds.keep {w w' : World} {R0 : Nat → Prop} {A : Option Addr} {ws : List Wd} (h : Wds w R0 A ws) (hk : Kp R0 w w') : Wds w' R0 A ws := fun hn => by
  obtain ⟨g, hA, hg, hc⟩ := h hn
  refine ⟨g, hA, hg, fun i hi => ?_⟩
  obtain ⟨B, d, h0, h1, h2, h3, h4, h5⟩ := hc i hi
  exact ⟨B, d, hk.cell hg h0, hk.cell hg h1, hk.cell hg h2, hk.cell hg h3, hk.cell hg h4, h5.keep hk⟩
def Pa (w : World) (R : Nat) (R0 : Nat → Prop) (A : Option Addr) (c : Nat) (ws : List Wd) (e a : Nat) : Prop :=
  Blk w R 66 #[.slice A ws.length c, .int .i64 (a : Nat), .int .i64 (e : Nat)] ∧ ¬ R0 R ∧ Wds w R0 A ws ∧ a ≤ ws.length ∧ ws.length ≤ 1048576
section
variable {w w' : World} {R : Nat} {R0 : Nat → Prop} {A : Option Addr} {c e a : Nat} {ws : List Wd}
theorem Pa.below (h : Pa w R R0 A c ws e a) (hb : Below w.heap.size w w') : Pa w' R R0 A c ws e a := ⟨h.1.below hb, h.2.1, h.2.2.1.keep (.of_below hb), h.2.2.2⟩
theorem P.isW_drop (s : ByteArray) (ws : List Wd) (i : Nat) : P.isW s (ws.drop i) = (decide (i < ws.length) && decide ((ws.getD i wd0).2.1 = s)) := by
  by_cases h : i < ws.length
  · rw [List.drop_eq_getElem_cons h]
    simp [P.isW, h, List.getD]
  · rw [List.drop_eq_nil_of_le (by omega)]
    simp [P.isW, h]
theorem P.kd_drop (ws : List Wd) (i : Nat) : P.kd (ws.drop i) = if i < ws.length then (ws.getD i wd0).1 else 0 := by
  by_cases h : i < ws.length
  · rw [List.drop_eq_getElem_cons h]
    simp [P.kd, h, List.getD]
  · rw [List.drop_eq_nil_of_le (by omega)]
    simp [P.kd, h]
theorem three {w : World} {b : Nat} {t : TypeId} {v0 v1 v2 : Value} (h : Blk w b t #[v0, v1, v2]) : w.cell? ⟨b, 0, none⟩ = some v0 ∧ w.cell? ⟨b, 1, none⟩ = some v1 ∧ w.cell? ⟨b, 2, none⟩ = some v2 := ⟨h.cell 0, h.cell 1, h.cell 2⟩
theorem beq_str (x s : ByteArray) : (x.toList == s.toList) = decide (x = s) := by
  rw [Bool.eq_iff_iff]
  simp [ByteArray.toList_eq]
  exact ⟨fun h => ByteArray.ext h, fun h => by rw [h]⟩
theorem wrap_nat {k : Int} (h0 : 0 ≤ k) (h : k ≤ 4611686018427387904) : IntKind.i64.wrap k = k := by simp [IntKind.wrap, IntKind.bits, IntKind.signed]; omega
set_option maxRecDepth 100000 in
set_option maxHeartbeats 1600000 in
theorem peek_r (h : Pa w R R0 A c ws e a) (s : ByteArray) (on : Nat) (hon : on ≤ 1) (z : Int) (hz : z = (on : Nat)) :
    Calls Tryz.prog 110 #[.pointer (some ⟨R, 0, none⟩), .string s, .int .i64 z] w fun ex w' => ex = .returned (.bool (P.isW s (ws.drop (a + on)))) ∧ Below w.heap.size w w' := by
  subst hz
  rw [P.isW_drop]
  obtain ⟨hR, _, hws, ha, hn⟩ := h
  obtain ⟨c0, c1, c2⟩ := three hR
  obtain ⟨n, hn'⟩ : ∃ n, ws.length = n := ⟨_, rfl⟩
  unfold Wds at hws
  rw [hn'] at c0 hws ha hn ⊢
  obtain ⟨q, hq⟩ : ∃ q, a + on = q := ⟨_, rfl⟩
  rw [hq]
  have hw : IntKind.i64.wrap ((a : Int) + (on : Int)) = (q : Int) := by rw [wrap_nat (by omega) (by omega)]; omega
  by_cases hi : q < n
  · obtain ⟨g, rfl, _, hc⟩ := hws (by omega)
    obtain ⟨B, d, _, e1, _⟩ := hc _ hi
    have d1 : decide (q < n) = true := decide_eq_true hi
    have i0 : (0 : Int) ≤ (q : Int) := by omega
    have i1 : (q : Int) < n := by omega
    clear hws hc hR hn' hq
    go_enter Tryz.func110, Tryz.ntmps110
    go_upto_region 1 with (fail)
    go_quiet (fail)
    go_wp2_with fail
    go_ret
    exact ⟨by simp [hi, beq_str], below_drewN (Below.refl _ _) _⟩
  · have d1 : decide (q < n) = false := decide_eq_false hi
    clear hws hR hn' hq
    go_enter Tryz.func110, Tryz.ntmps110
    go_upto_region 1 with (fail)
    go_quiet (fail)
    go_wp2_with fail
    go_ret
    exact ⟨by simp [hi], below_drewN (Below.refl _ _) _⟩
set_option maxRecDepth 100000 in
set_option maxHeartbeats 1600000 in
theorem kind_r (h : Pa w R R0 A c ws e a) :
    Calls Tryz.prog 161 #[.pointer (some ⟨R, 0, none⟩)] w fun ex w' => ex = .returned (.int .i64 (P.kd (ws.drop a) : Nat)) ∧ Below w.heap.size w w' := by
  rw [P.kd_drop]
  obtain ⟨hR, _, hws, ha, hn⟩ := h
  obtain ⟨c0, c1, c2⟩ := three hR
  obtain ⟨n, hn'⟩ : ∃ n, ws.length = n := ⟨_, rfl⟩
  unfold Wds at hws
  rw [hn'] at c0 hws ha hn ⊢
  by_cases hi : a < n
  · obtain ⟨g, rfl, _, hc⟩ := hws (by omega)
    obtain ⟨B, d, e0, _⟩ := hc _ hi
    have d1 : decide (a < n) = true := decide_eq_true hi
    have i0 : (0 : Int) ≤ (a : Int) := by omega
    have i1 : (a : Int) < n := by omega
    clear hws hc hR hn'
    go_enter Tryz.func161, Tryz.ntmps161
    go_upto_region 1 with (fail)
    go_quiet (fail)
    go_upto_region 2 with (fail)
    go_quiet (fail)
    go_wp2_with fail
    go_ret
    exact ⟨by simp, below_drewN (Below.refl _ _) _⟩
  · have d1 : decide (a < n) = false := decide_eq_false hi
    clear hws hR hn'
    go_enter Tryz.func161, Tryz.ntmps161
    go_upto_region 1 with (fail)
    go_quiet (fail)
    go_wp2_with fail
    go_ret
    exact ⟨by simp, below_drewN (Below.refl _ _) _⟩
abbrev stopV (code p : Nat) : PanicEntry := { v := .iface 62 (.agg #[.int .i64 (code : Nat), .int .i64 (p : Nat)]), recovered := false }
theorem P.wrong_drop (e : Nat) (ws : List Wd) (i : Nat) : P.wrong e (ws.drop i) = if i < ws.length then .bad 41 (ws.getD i wd0).2.2.2 else .bad 42 e := by
  by_cases h : i < ws.length
  · rw [List.drop_eq_getElem_cons h]
    simp [P.wrong, h, List.getD]
  · rw [List.drop_eq_nil_of_le (by omega)]
    simp [P.wrong, h]
set_option maxRecDepth 100000 in
set_option maxHeartbeats 1600000 in
theorem wrong_r (h : Pa w R R0 A c ws e a) :
    Calls Tryz.prog 39 #[.pointer (some ⟨R, 0, none⟩)] w fun ex w' => ∃ cd p, P.wrong e (ws.drop a) = .bad cd p ∧ ex = .panicked [stopV cd p] ∧ Below w.heap.size w w' := by
  rw [P.wrong_drop]
  obtain ⟨hR, _, hws, ha, hn⟩ := h
  obtain ⟨c0, c1, c2⟩ := three hR
  obtain ⟨n, hn'⟩ : ∃ n, ws.length = n := ⟨_, rfl⟩
  unfold Wds at hws
  rw [hn'] at c0 hws ha hn ⊢
  by_cases hi : a < n
  · obtain ⟨g, rfl, _, hc⟩ := hws (by omega)
    obtain ⟨B, d, _, _, _, _, e4, _⟩ := hc _ hi
    rw [if_pos hi]
    obtain ⟨p, hp⟩ : ∃ p, (ws.getD a wd0).2.2.2 = p := ⟨_, rfl⟩
    rw [hp] at e4 ⊢
    have d1 : decide (n ≤ a) = false := decide_eq_false (by omega)
    have i0 : (0 : Int) ≤ (a : Int) := by omega
    have i1 : (a : Int) < n := by omega
    clear hws hc hR hn' hp
    go_enter Tryz.func39, Tryz.ntmps39
    go_upto_region 0 with (fail)
    go_quiet (fail)
    go_upto_region 2 with (fail)
    refine wp_region_held_drew (S := fun w' => ((w'.cell? ⟨R, 0, none⟩ = some (.slice (some ⟨g, 0, none⟩) n c) ∧ w'.cell? ⟨R, 1, none⟩ = some (.int .i64 (a : Nat))) ∧ w'.cell? ⟨g, a * 5 + 4, none⟩ = some (.int .i64 (p : Nat))) ∧ Below w.heap.size w w') (by kernel_rfl) ⟨⟨⟨c0, c1⟩, e4⟩, (below_drewN (Below.refl _ _) _).drew⟩ (fun hHeld => ?_)
    refine take_at 0 (by kernel_rfl) (by kernel_rfl) (by kernel_rfl) (fun _ _ d _ _ h => by cases d <;> exact h) ⟨_, rfl⟩ (by assumption) (fun o ho => ?_)
    simp only [List.getElem?_toArray, List.getElem?_cons_zero, Option.some.injEq] at ho
    subst ho
    refine ⟨?_, ⟨by rfl, ?_⟩, ?_⟩
    rotate_left
    · intro w hSw
      (try dsimp only at hSw)
      (go_simp; try with_reducible rfl)
    (try simp only [Act.put, List.setIfInBounds_toArray, List.set_cons_zero, List.set_cons_succ])
    refine take_at 1 (by kernel_rfl) (by kernel_rfl) (by kernel_rfl) (fun _ _ d _ _ h => by cases d <;> exact h) ⟨_, rfl⟩ (by assumption) (fun o ho => ?_)
    simp only [List.getElem?_toArray, List.getElem?_cons_succ, List.getElem?_cons_zero, Option.some.injEq] at ho
    subst ho
    refine ⟨?_, ⟨by rfl, ?_⟩, ?_⟩
    rotate_left
    · intro w hSw
      (try dsimp only at hSw)
      (go_simp; try with_reducible rfl)
    (try simp only [Act.put, List.setIfInBounds_toArray, List.set_cons_zero, List.set_cons_succ])
    refine take_at 2 (by kernel_rfl) (by kernel_rfl) (by kernel_rfl) (fun _ _ d _ _ h => by cases d <;> exact h) ⟨_, rfl⟩ (by assumption) (fun o ho => ?_)
    simp only [List.getElem?_toArray, List.getElem?_cons_succ, List.getElem?_cons_zero, Option.some.injEq] at ho
    subst ho
    refine ⟨?_, ⟨by rfl, ?_⟩, ?_⟩
    rotate_left
    · intro w hSw
      (try dsimp only at hSw)
      (go_simp; try with_reducible rfl)
    (try simp only [Act.put, List.setIfInBounds_toArray, List.set_cons_zero, List.set_cons_succ])
    refine take_at 3 (by kernel_rfl) (by kernel_rfl) (by kernel_rfl) (fun _ _ d _ _ h => by cases d <;> exact h) ⟨_, rfl⟩ (by assumption) (fun o ho => ?_)
    simp only [List.getElem?_toArray, List.getElem?_cons_succ, List.getElem?_cons_zero, Option.some.injEq] at ho
    subst ho
    refine ⟨?_, ⟨by rfl, ?_⟩, ?_⟩
    rotate_left
    · intro w hSw
      (try dsimp only at hSw)
      (go_simp; try with_reducible rfl)
    (try simp only [Act.put, List.setIfInBounds_toArray, List.set_cons_zero, List.set_cons_succ])
    refine take_at 4 (by kernel_rfl) (by kernel_rfl) (by kernel_rfl) (fun _ _ d _ _ h => by cases d <;> exact h) ⟨_, rfl⟩ (by assumption) (fun o ho => ?_)
    simp only [List.getElem?_toArray, List.getElem?_cons_succ, List.getElem?_cons_zero, Option.some.injEq] at ho
    subst ho
    refine ⟨?_, ⟨by rfl, ?_⟩, ?_⟩
    rotate_left
    · intro w hSw
      (try dsimp only at hSw)
      (go_simp; try with_reducible rfl)
    (try simp only [Act.put, List.setIfInBounds_toArray, List.set_cons_zero, List.set_cons_succ])
    refine take_at 5 (by kernel_rfl) (by kernel_rfl) (by kernel_rfl) (fun _ _ d _ _ h => by cases d <;> exact h) ⟨_, rfl⟩ (by assumption) (fun o ho => ?_)
    simp only [List.getElem?_toArray, List.getElem?_cons_succ, List.getElem?_cons_zero, Option.some.injEq] at ho
    subst ho
    refine ⟨?_, ⟨by rfl, ?_⟩, ?_⟩
    rotate_left
    · intro w hSw
      (try dsimp only at hSw)
      (go_simp; try with_reducible rfl)
    (try simp only [Act.put, List.setIfInBounds_toArray, List.set_cons_zero, List.set_cons_succ])
    refine take_at 6 (by kernel_rfl) (by kernel_rfl) (by kernel_rfl) (fun _ _ d _ _ h => by cases d <;> exact h) ⟨_, rfl⟩ (by assumption) (fun o ho => ?_)
    simp only [List.getElem?_toArray, List.getElem?_cons_succ, List.getElem?_cons_zero, Option.some.injEq] at ho
    subst ho
    refine ⟨?_, ⟨by rfl, ?_⟩, ?_⟩
    rotate_left
    · intro w hSw
      (try dsimp only at hSw)
      (go_simp; try with_reducible rfl)
    (try simp only [Act.put, List.setIfInBounds_toArray, List.set_cons_zero, List.set_cons_succ])
    refine take_at 7 (by kernel_rfl) (by kernel_rfl) (by kernel_rfl) (fun _ _ d _ _ h => by cases d <;> exact h) ⟨_, rfl⟩ (by assumption) (fun o ho => ?_)
    simp only [List.getElem?_toArray, List.getElem?_cons_succ, List.getElem?_cons_zero, Option.some.injEq] at ho
    subst ho
    refine ⟨?_, ⟨by rfl, ?_⟩, ?_⟩
    rotate_left
    · intro w hSw
      (try dsimp only at hSw)
      (go_simp; try with_reducible rfl)
    (try simp only [Act.put, List.setIfInBounds_toArray, List.set_cons_zero, List.set_cons_succ])
    refine take_at 8 (by kernel_rfl) (by kernel_rfl) (by kernel_rfl) (fun _ _ d _ _ h => by cases d <;> exact h) ⟨_, rfl⟩ (by assumption) (fun o ho => ?_)
    simp only [List.getElem?_toArray, List.getElem?_cons_succ, List.getElem?_cons_zero, Option.some.injEq] at ho
    subst ho
    refine ⟨?_, ⟨by rfl, ?_⟩, ?_⟩
    rotate_left
    · intro w hSw
      (try dsimp only at hSw)
      (go_simp; try with_reducible rfl)
    (try simp only [Act.put, List.setIfInBounds_toArray, List.set_cons_zero, List.set_cons_succ])
    refine take_at 9 (by kernel_rfl) (by kernel_rfl) (by kernel_rfl) (fun _ _ d _ _ h => by cases d <;> exact h) ⟨_, rfl⟩ (by assumption) (fun o ho => ?_)
    simp only [List.getElem?_toArray, List.getElem?_cons_succ, List.getElem?_cons_zero, Option.some.injEq] at ho
    subst ho
    refine ⟨?_, ⟨by rfl, ?_⟩, ?_⟩
    rotate_left
    · intro w hSw
      (try dsimp only at hSw)
      (go_simp; try with_reducible rfl)
    (try simp only [Act.put, List.setIfInBounds_toArray, List.set_cons_zero, List.set_cons_succ])
    refine take_at 10 (by kernel_rfl) (by kernel_rfl) (by kernel_rfl) (fun _ _ d _ _ h => by cases d <;> exact h) ⟨_, rfl⟩ (by assumption) (fun o ho => ?_)
    simp only [List.getElem?_toArray, List.getElem?_cons_succ, List.getElem?_cons_zero, Option.some.injEq] at ho
    subst ho
    refine ⟨?_, ⟨by rfl, ?_⟩, ?_⟩
    rotate_left
    · intro w hSw
      (try dsimp only at hSw)
      (go_simp; try with_reducible rfl)
    (try simp only [Act.put, List.setIfInBounds_toArray, List.set_cons_zero, List.set_cons_succ])
    refine take_at 11 (by kernel_rfl) (by kernel_rfl) (by kernel_rfl) (fun _ _ d _ _ h => by cases d <;> exact h) ⟨_, rfl⟩ (by assumption) (fun o ho => ?_)
    simp only [List.getElem?_toArray, List.getElem?_cons_succ, List.getElem?_cons_zero, Option.some.injEq] at ho
    subst ho
    refine ⟨?_, ⟨by rfl, ?_⟩, ?_⟩
    rotate_left
    · intro w hSw
      (try dsimp only at hSw)
      (go_simp; try with_reducible rfl)
    (try simp only [Act.put, List.setIfInBounds_toArray, List.set_cons_zero, List.set_cons_succ])
    refine take_at 12 (by kernel_rfl) (by kernel_rfl) (by kernel_rfl) (fun _ _ d _ _ h => by cases d <;> exact h) ⟨_, rfl⟩ (by assumption) (fun o ho => ?_)
    simp only [List.getElem?_toArray, List.getElem?_cons_succ, List.getElem?_cons_zero, Option.some.injEq] at ho
    subst ho
    refine ⟨?_, ⟨by rfl, ?_⟩, ?_⟩
    rotate_left
    · intro w hSw
      (try dsimp only at hSw)
      (go_simp; try with_reducible rfl)
    (try simp only [Act.put, List.setIfInBounds_toArray, List.set_cons_zero, List.set_cons_succ])
    refine take_at 13 (by kernel_rfl) (by kernel_rfl) (by kernel_rfl) (fun _ _ d _ _ h => by cases d <;> exact h) ⟨_, rfl⟩ (by assumption) (fun o ho => ?_)
    simp only [List.getElem?_toArray, List.getElem?_cons_succ, List.getElem?_cons_zero, Option.some.injEq] at ho
    subst ho
    refine ⟨?_, ⟨by rfl, ?_⟩, ?_⟩
    rotate_left
    · intro w hSw
      (try dsimp only at hSw)
      (go_simp; try with_reducible rfl)
    (try simp only [Act.put, List.setIfInBounds_toArray, List.set_cons_zero, List.set_cons_succ])
    refine wpAnyH_ready (rs := [14]) (by kernel_rfl) (by simp) ?_
    refine ready_at 14 ⟨_, rfl⟩ (fun o ho K hK => ?_) AllReadyH.nil
    simp only [List.getElem?_toArray, List.getElem?_cons_succ, List.getElem?_cons_zero, Option.some.injEq] at ho
    subst ho
    go_simp
    exact ⟨rfl, _, _, rfl, rfl, hHeld.2⟩
  · have d1 : decide (n ≤ a) = true := decide_eq_true (by omega)
    rw [if_neg hi]
    clear hws hR hn'
    go_enter Tryz.func39, Tryz.ntmps39
    go_upto_region 0 with (fail)
    go_quiet (fail)
    go_wp2_with fail
    exact ⟨rfl, _, _, rfl, rfl, below_drewN (Below.refl _ _) _⟩
theorem Pa.at (h : Pa w R R0 A c ws e a) (hf : Fr w w' (fun k => k = R)) {a' : Nat} (hb : Blk w' R 66 #[.slice A ws.length c, .int .i64 (a' : Nat), .int .i64 (e : Nat)]) (ha : a' ≤ ws.length) : Pa w' R R0 A c ws e a' :=
  ⟨hb, h.2.1, h.2.2.1.keep (.of_fr hf (fun b h0 e => by subst e; exact h.2.1 h0)), ha, h.2.2.2.2⟩
theorem Fr.of_below {x : Nat → Prop} (h : Below w.heap.size w w') : Fr w w' x := (Fr.refl w x).below h
set_option maxRecDepth 100000 in
set_option maxHeartbeats 1600000 in
theorem is_no (h : Pa w R R0 A c ws e a) (s : ByteArray) (hs : P.isW s (ws.drop a) = false) :
    Calls Tryz.prog 68 #[.pointer (some ⟨R, 0, none⟩), .string s] w fun ex w' => ex = .returned (.bool false) ∧ Below w.heap.size w w' := by
  have hp := peek_r h s 0 (by omega) 0 rfl
  rw [Nat.add_zero, hs] at hp
  have HP := Lib.hid hp
  clear hp hs h
  go_enter Tryz.func68, Tryz.ntmps68
  go_wp2_with (go_at_call 110; refine HP.out.mono ?_; rintro ex w1 ⟨rfl, hb⟩)
  go_ret
  exact ⟨rfl, hb⟩
set_option maxRecDepth 100000 in
set_option maxHeartbeats 1600000 in
theorem is_yes (h : Pa w R R0 A c ws e a) (s : ByteArray) (hs : P.isW s (ws.drop a) = true) :
    Calls Tryz.prog 68 #[.pointer (some ⟨R, 0, none⟩), .string s] w fun ex w' => ex = .returned (.bool true) ∧ Pa w' R R0 A c ws e (a + 1) ∧ Fr w w' (fun k => k = R) := by
  have hp := peek_r h s 0 (by omega) 0 rfl
  rw [Nat.add_zero, hs] at hp
  have hlt : a < ws.length := by
    rw [P.isW_drop] at hs
    simp at hs
    exact hs.1
  have hn := h.2.2.2.2
  have hw : IntKind.i64.wrap ((a : Int) + 1) = (a : Int) + 1 := wrap_nat (by omega) (by omega)
  have HP := Lib.hid hp
  have HPA := Lib.hid h
  clear hp hs h
  go_enter Tryz.func68, Tryz.ntmps68
  go_upto_region 2 with (go_at_call 110; refine HP.out.mono ?_; rintro ex w1 ⟨rfl, hb⟩)
  have h1 := HPA.out.below hb
  obtain ⟨c0, c1, c2⟩ := three h1.1
  have f1 := h1.1.free 1
  have HP1 := Lib.hid h1
  have HB := Lib.hid hb
  clear h1 hb
  go_wp2_with fail
  go_ret
  have hf := (Fr.refl w1 (fun k => k = R)).set (b := R) (.inl rfl) 1 (.int .i64 ((a : Int) + 1))
  exact ⟨rfl, HP1.out.at hf (HP1.out.1.put 1 _) (by omega), (Fr.of_below HB.out).step hf (fun _ h => .inl h)⟩
set_option maxRecDepth 100000 in
set_option maxHeartbeats 1600000 in
theorem must_yes (h : Pa w R R0 A c ws e a) (s : ByteArray) (hs : P.isW s (ws.drop a) = true) :
    Calls Tryz.prog 163 #[.pointer (some ⟨R, 0, none⟩), .string s] w fun ex w' => ex = .returned (.tuple #[]) ∧ Pa w' R R0 A c ws e (a + 1) ∧ Fr w w' (fun k => k = R) := by
  have HP := Lib.hid (is_yes h s hs)
  clear hs h
  go_enter Tryz.func163, Tryz.ntmps163
  go_wp2_with (go_at_call 68; refine HP.out.mono ?_; rintro ex w1 ⟨rfl, hb⟩)
  go_end0
  exact ⟨rfl, hb⟩
set_option maxRecDepth 100000 in
set_option maxHeartbeats 1600000 in
theorem must_no (h : Pa w R R0 A c ws e a) (s : ByteArray) (hs : P.isW s (ws.drop a) = false) :
    Calls Tryz.prog 163 #[.pointer (some ⟨R, 0, none⟩), .string s] w fun ex w' => ∃ cd p, P.wrong e (ws.drop a) = .bad cd p ∧ ex = .panicked [stopV cd p] ∧ Below w.heap.size w w' := by
  have HP := Lib.hid (is_no h s hs)
  have HPA := Lib.hid h
  clear hs h
  go_enter Tryz.func163, Tryz.ntmps163
  go_wp2_with (first
    | (go_at_call 68; refine HP.out.mono ?_; rintro ex w1 ⟨rfl, hb⟩)
    | (go_at_call 39; refine (wrong_r (HPA.out.below hb)).mono ?_; rintro ex w2 ⟨cd, p, hwr, rfl, hb2⟩))
  exact ⟨rfl, _, _, hwr, rfl, below_on hb hb2⟩
theorem Fr.cell {x : Nat → Prop} {q : Addr} {v : Value} (h : Fr w w' x) (hc : w.cell? q = some v) (hx : ¬ x q.block) : w'.cell? q = some v :=
  (World.cell?_of_block (a := q) (h.block _ (World.block_lt_of_cell? w q hc) hx)).trans hc
theorem fr5 (w : World) (b : Nat) (u0 u1 u2 u3 u4 : Value) : Fr w (((((w.setCell ⟨b, 0, none⟩ u0).setCell ⟨b, 1, none⟩ u1).setCell ⟨b, 2, none⟩ u2).setCell ⟨b, 3, none⟩ u3).setCell ⟨b, 4, none⟩ u4) (fun k => k = b) :=
  have h0 : Fr w w (fun k => k = b) := Fr.refl _ _
  ((((h0.set (b := b) (.inl rfl) 0 _).set (b := b) (.inl rfl) 1 _).set (b := b) (.inl rfl) 2 _).set (b := b) (.inl rfl) 3 _).set (b := b) (.inl rfl) 4 _
theorem Fr.drew {x : Nat → Prop} (h : Fr w w' x) : Fr w w'.drew x := h.below (Below.refl _ _).drew
theorem next_end {W W1 : World} {bt d t1 t4 : Nat} {t2 : ByteArray} {t3 : List Nat} {B : Option Addr} (h0 : Pa w R R0 A c ws e a) (hl : Lm w R0 B d t3) (hbw : Below w.heap.size w W) (hf : Fr W W1 (fun k => k = R)) (h1 : Pa W1 R R0 A c ws e (a + 1)) (hne : R ≠ bt) (hbt : bt = w.heap.size) :
    ∃ B' d', (Ending.returned (.agg #[.int .i64 (t1 : Nat), .string t2, .bool false, .slice B t3.length d, .int .i64 (t4 : Nat)]) : Ending) = .returned (.agg #[.int .i64 (t1 : Nat), .string t2, .bool false, .slice B' t3.length d', .int .i64 (t4 : Nat)]) ∧
      Lm ((((((W1.setCell ⟨bt, 0, none⟩ (.int .i64 (t1 : Nat))).setCell ⟨bt, 1, none⟩ (.string t2)).setCell ⟨bt, 2, none⟩ (.bool false)).setCell ⟨bt, 3, none⟩ (.slice B t3.length d)).setCell ⟨bt, 4, none⟩ (.int .i64 (t4 : Nat))).drew) R0 B' d' t3 ∧
      Pa ((((((W1.setCell ⟨bt, 0, none⟩ (.int .i64 (t1 : Nat))).setCell ⟨bt, 1, none⟩ (.string t2)).setCell ⟨bt, 2, none⟩ (.bool false)).setCell ⟨bt, 3, none⟩ (.slice B t3.length d)).setCell ⟨bt, 4, none⟩ (.int .i64 (t4 : Nat))).drew) R R0 A c ws e (a + 1) ∧
      Fr w ((((((W1.setCell ⟨bt, 0, none⟩ (.int .i64 (t1 : Nat))).setCell ⟨bt, 1, none⟩ (.string t2)).setCell ⟨bt, 2, none⟩ (.bool false)).setCell ⟨bt, 3, none⟩ (.slice B t3.length d)).setCell ⟨bt, 4, none⟩ (.int .i64 (t4 : Nat))).drew) (fun k => k = R) := by
  have hf5 := (fr5 W1 bt (.int .i64 (t1 : Nat)) (.string t2) (.bool false) (.slice B t3.length d) (.int .i64 (t4 : Nat))).drew
  have hfw : Fr w W (fun k => k = R) := Fr.of_below hbw
  have hfa := (hfw.step hf (fun k hk => .inl hk)).step hf5 (fun k hk => .inr (by have : k = bt := hk; omega))
  exact ⟨B, d, rfl, hl.keep (.of_fr hfa (fun b hb e => h0.2.1 (e ▸ hb))), h0.at hfa (hf5.blk h1.1 hne) h1.2.2.2.1, hfa⟩
theorem results_next {fn : Func} {p : Tmp} (h : fn.results = #[.cell p 98]) (tmps : Array Value) (w : World) (g : Nat) (t : TypeId) (a0 a1 a2 a3 a4 : Value)
    (hp : tmps.getD p undef = .pointer (some ⟨g, 0, none⟩)) (hg : Blk w g t #[a0, a1, a2, a3, a4]) :
    (results fn tmps).run Tryz.prog w = .ok (.agg #[a0, a1, a2, a3, a4]) w := by
  have hp' : tmps[p]?.getD undef = .pointer (some ⟨g, 0, none⟩) := by simpa using hp
  simp [results, h, hp', asAddr, run_loadVar_row w g _ 98 _ _ _ hg Tryz.underlying98 rfl sizeTok]
set_option maxRecDepth 100000 in
set_option maxHeartbeats 1600000 in
theorem next_r (h : Pa w R R0 A c ws e a) (hlt : a < ws.length) :
    Calls Tryz.prog 162 #[.pointer (some ⟨R, 0, none⟩)] w fun ex w' => ∃ B d, ex = .returned (.agg #[.int .i64 ((ws.getD a wd0).1 : Nat), .string (ws.getD a wd0).2.1, .bool false, .slice B (ws.getD a wd0).2.2.1.length d, .int .i64 ((ws.getD a wd0).2.2.2 : Nat)]) ∧ Lm w' R0 B d (ws.getD a wd0).2.2.1 ∧ Pa w' R R0 A c ws e (a + 1) ∧ Fr w w' (fun k => k = R) := by
  have hn := h.2.2.2.2
  have hw : IntKind.i64.wrap ((a : Int) + 1) = (a : Int) + 1 := wrap_nat (by omega) (by omega)
  have hw2 : IntKind.i64.wrap (a : Int) = (a : Int) := wrap_nat (by omega) (by omega)
  obtain ⟨g, rfl, hg, hc⟩ := h.2.2.1 (by omega)
  obtain ⟨B, d, e0, e1, e2, e3, e4, hlm⟩ := hc a hlt
  obtain ⟨⟨t1, t2, t3, t4⟩, ht⟩ : ∃ t, ws.getD a wd0 = t := ⟨_, rfl⟩
  rw [ht] at e0 e1 e3 e4 hlm ⊢
  dsimp only at e0 e1 e3 e4 hlm ⊢
  obtain ⟨W, hW, hp, hbW⟩ := made_blk w #[.int .i64 0, .string ⟨#[]⟩, .bool false, .slice none 0 0, .int .i64 0] 98
  obtain ⟨bt, hbt⟩ : ∃ b, b = w.heap.size := ⟨_, rfl⟩
  have hRlt := h.1.lt
  have hglt : g < w.heap.size := World.block_lt_of_cell? w _ e0
  have h1 := h.below hbW
  have e0 := keep_cell e0 hbW
  have e1 := keep_cell e1 hbW
  have e2 := keep_cell e2 hbW
  have e3 := keep_cell e3 hbW
  have e4 := keep_cell e4 hbW
  obtain ⟨n, hn'⟩ : ∃ n, ws.length = n := ⟨_, rfl⟩
  have hn2 := h1.1
  rw [hn'] at hn2 hlt hn
  obtain ⟨c0, c1, c2⟩ := three hn2
  have f1 := hn2.free 1
  have i0 : (0 : Int) ≤ (a : Int) := by omega
  have i1 : (a : Int) < n := by omega
  have HPA := Lib.hid h1
  have HBW := Lib.hid hbW
  have HN := Lib.hid hn'
  have HP0 := Lib.hid h
  have HL0 := Lib.hid hlm
  rw [← hbt] at hp
  have hne : R ≠ bt := by omega
  have HT := Lib.hid hbt
  clear h hc hlm h1 hbW hn' ht hn2
  go_enter Tryz.func162, Tryz.ntmps162
  go_upto_region 1 with (fail)
  rw [← hW, ← hbt]
  clear hW hbt
  go_upto_region 2 with (fail)
  have hf : Fr W (W.setCell ⟨R, 1, none⟩ (.int .i64 ((a : Int) + 1))) (fun k => k = R) := (Fr.refl W (fun k => k = R)).set (b := R) (.inl rfl) 1 (.int .i64 ((a : Int) + 1))
  have hB1 := HPA.out.1.put 1 (.int .i64 ((a : Int) + 1))
  have hp1 := hf.blk hp (fun e => hne e.symm)
  obtain ⟨W1, hW1⟩ : ∃ W1, W.setCell ⟨R, 1, none⟩ (.int .i64 ((a : Int) + 1)) = W1 := ⟨_, rfl⟩
  rw [hW1] at hf hB1 hp1 ⊢
  have hk := Kp.of_fr (R0 := R0) hf (fun b h0 e => HPA.out.2.1 (e ▸ h0))
  have HP2 : Hid (Pa W1 R R0 (some ⟨g, 0, none⟩) c ws e (a + 1)) := Lib.hid (HPA.out.at hf hB1 (by rw [HN.out]; omega))
  replace e0 := hk.cell hg e0
  replace e1 := hk.cell hg e1
  replace e2 := hk.cell hg e2
  replace e3 := hk.cell hg e3
  replace e4 := hk.cell hg e4
  simp only [List.setIfInBounds_toArray, List.set_cons_zero, List.set_cons_succ] at hB1
  rw [HN.out] at hB1
  obtain ⟨c0', c1', c2'⟩ := three hB1
  obtain ⟨⟨g0, g1, g2, g3, g4⟩, q0, q1, q2, q3, q4⟩ := hp1.facts
  have HF := Lib.hid hf
  have HP1 := Lib.hid hp1
  have hgn : g ≠ bt := by have := HT.out; omega
  clear c0 c1 c2 hf hB1 hp hp1 hW1 hk f1
  have hS1 : ∀ w', Fr W1 w' (fun k => k = bt) → ((fun w' => (w'.cell? ⟨R, 0, none⟩ = some (.slice (some ⟨g, 0, none⟩) n c) ∧ w'.cell? ⟨R, 1, none⟩ = some (.int .i64 ((a : Int) + 1))) ∧ w'.cell? ⟨g, a * 5, none⟩ = some (.int .i64 (t1 : Nat)) ∧ w'.cell? ⟨g, a * 5 + 1, none⟩ = some (.string t2) ∧ w'.cell? ⟨g, a * 5 + 2, none⟩ = some (.bool false) ∧ w'.cell? ⟨g, a * 5 + 3, none⟩ = some (.slice B t3.length d) ∧ w'.cell? ⟨g, a * 5 + 4, none⟩ = some (.int .i64 (t4 : Nat)))) w' := fun w' h => ⟨⟨h.cell c0' hne, h.cell c1' hne⟩, h.cell e0 hgn, h.cell e1 hgn, h.cell e2 hgn, h.cell e3 hgn, h.cell e4 hgn⟩
  have hfd : Fr W1 W1.drew (fun k => k = bt) := Fr.of_below (Below.refl _ _).drew
  refine wp_region_held_drew (S := fun w' => (w'.cell? ⟨R, 0, none⟩ = some (.slice (some ⟨g, 0, none⟩) n c) ∧ w'.cell? ⟨R, 1, none⟩ = some (.int .i64 ((a : Int) + 1))) ∧ w'.cell? ⟨g, a * 5, none⟩ = some (.int .i64 (t1 : Nat)) ∧ w'.cell? ⟨g, a * 5 + 1, none⟩ = some (.string t2) ∧ w'.cell? ⟨g, a * 5 + 2, none⟩ = some (.bool false) ∧ w'.cell? ⟨g, a * 5 + 3, none⟩ = some (.slice B t3.length d) ∧ w'.cell? ⟨g, a * 5 + 4, none⟩ = some (.int .i64 (t4 : Nat))) (by kernel_rfl) (hS1 _ hfd) (fun hHeld => ?_)
  refine take_at 0 (by kernel_rfl) (by kernel_rfl) (by kernel_rfl) (fun _ _ d _ _ h => by cases d <;> exact h) ⟨_, rfl⟩ (by assumption) (fun o ho => ?_)
  simp only [List.getElem?_toArray, List.getElem?_cons_zero, Option.some.injEq] at ho
  subst ho
  refine ⟨?_, ⟨by rfl, ?_⟩, ?_⟩
  rotate_left
  · intro w hSw
    (try dsimp only at hSw)
    (go_simp; try with_reducible rfl)
  (try simp only [Act.put, List.setIfInBounds_toArray, List.set_cons_zero, List.set_cons_succ])
  refine take_at 1 (by kernel_rfl) (by kernel_rfl) (by kernel_rfl) (fun _ _ d _ _ h => by cases d <;> exact h) ⟨_, rfl⟩ (by assumption) (fun o ho => ?_)
  simp only [List.getElem?_toArray, List.getElem?_cons_succ, List.getElem?_cons_zero, Option.some.injEq] at ho
  subst ho
  refine ⟨?_, ⟨by rfl, ?_⟩, ?_⟩
  rotate_left
  · intro w hSw
    (try dsimp only at hSw)
    (go_simp; try with_reducible rfl)
  (try simp only [Act.put, List.setIfInBounds_toArray, List.set_cons_zero, List.set_cons_succ])
  refine take_at 2 (by kernel_rfl) (by kernel_rfl) (by kernel_rfl) (fun _ _ d _ _ h => by cases d <;> exact h) ⟨_, rfl⟩ (by assumption) (fun o ho => ?_)
  simp only [List.getElem?_toArray, List.getElem?_cons_succ, List.getElem?_cons_zero, Option.some.injEq] at ho
  subst ho
  refine ⟨?_, ⟨by rfl, ?_⟩, ?_⟩
  rotate_left
  · intro w hSw
    (try dsimp only at hSw)
    (go_simp; try with_reducible rfl)
  (try simp only [Act.put, List.setIfInBounds_toArray, List.set_cons_zero, List.set_cons_succ])
  refine take_at 3 (by kernel_rfl) (by kernel_rfl) (by kernel_rfl) (fun _ _ d _ _ h => by cases d <;> exact h) ⟨_, rfl⟩ (by assumption) (fun o ho => ?_)
  simp only [List.getElem?_toArray, List.getElem?_cons_succ, List.getElem?_cons_zero, Option.some.injEq] at ho
  subst ho
  refine ⟨?_, ⟨by rfl, ?_⟩, ?_⟩
  rotate_left
  · intro w hSw
    (try dsimp only at hSw)
    (go_simp; try with_reducible rfl)
  (try simp only [Act.put, List.setIfInBounds_toArray, List.set_cons_zero, List.set_cons_succ])
  refine take_at 4 (by kernel_rfl) (by kernel_rfl) (by kernel_rfl) (fun _ _ d _ _ h => by cases d <;> exact h) ⟨_, rfl⟩ (by assumption) (fun o ho => ?_)
  simp only [List.getElem?_toArray, List.getElem?_cons_succ, List.getElem?_cons_zero, Option.some.injEq] at ho
  subst ho
  refine ⟨?_, ⟨by rfl, ?_⟩, ?_⟩
  rotate_left
  · intro w hSw
    (try dsimp only at hSw)
    (go_simp; try with_reducible rfl)
  (try simp only [Act.put, List.setIfInBounds_toArray, List.set_cons_zero, List.set_cons_succ])
  refine take_at 5 (by kernel_rfl) (by kernel_rfl) (by kernel_rfl) (fun _ _ d _ _ h => by cases d <;> exact h) ⟨_, rfl⟩ (by assumption) (fun o ho => ?_)
  simp only [List.getElem?_toArray, List.getElem?_cons_succ, List.getElem?_cons_zero, Option.some.injEq] at ho
  subst ho
  refine ⟨?_, ⟨by rfl, ?_⟩, ?_⟩
  rotate_left
  · intro w hSw
    (try dsimp only at hSw)
    (go_simp; try with_reducible rfl)
  (try simp only [Act.put, List.setIfInBounds_toArray, List.set_cons_zero, List.set_cons_succ])
  refine take_at 6 (by kernel_rfl) (by kernel_rfl) (by kernel_rfl) (fun _ _ d _ _ h => by cases d <;> exact h) ⟨_, rfl⟩ (by assumption) (fun o ho => ?_)
  simp only [List.getElem?_toArray, List.getElem?_cons_succ, List.getElem?_cons_zero, Option.some.injEq] at ho
  subst ho
  refine ⟨?_, ⟨by rfl, ?_⟩, ?_⟩
  rotate_left
  · intro w hSw
    (try dsimp only at hSw)
    (go_simp; try with_reducible rfl)
  (try simp only [Act.put, List.setIfInBounds_toArray, List.set_cons_zero, List.set_cons_succ])
  refine take_at 7 (by kernel_rfl) (by kernel_rfl) (by kernel_rfl) (fun _ _ d _ _ h => by cases d <;> exact h) ⟨_, rfl⟩ (by assumption) (fun o ho => ?_)
  simp only [List.getElem?_toArray, List.getElem?_cons_succ, List.getElem?_cons_zero, Option.some.injEq] at ho
  subst ho
  refine ⟨?_, ⟨by rfl, ?_⟩, ?_⟩
  rotate_left
  · intro w hSw
    (try dsimp only at hSw)
    (go_simp; try with_reducible rfl)
  (try simp only [Act.put, List.setIfInBounds_toArray, List.set_cons_zero, List.set_cons_succ])
  refine take_at 8 (by kernel_rfl) (by kernel_rfl) (by kernel_rfl) (fun _ _ d _ _ h => by cases d <;> exact h) ⟨_, rfl⟩ (by assumption) (fun o ho => ?_)
  simp only [List.getElem?_toArray, List.getElem?_cons_succ, List.getElem?_cons_zero, Option.some.injEq] at ho
  subst ho
  refine ⟨?_, ⟨by rfl, ?_⟩, ?_⟩
  rotate_left
  · intro w hSw
    (try dsimp only at hSw)
    (go_simp; try with_reducible rfl)
  (try simp only [Act.put, List.setIfInBounds_toArray, List.set_cons_zero, List.set_cons_succ])
  refine take_at 9 (by kernel_rfl) (by kernel_rfl) (by kernel_rfl) (fun _ _ d _ _ h => by cases d <;> exact h) ⟨_, rfl⟩ (by assumption) (fun o ho => ?_)
  simp only [List.getElem?_toArray, List.getElem?_cons_succ, List.getElem?_cons_zero, Option.some.injEq] at ho
  subst ho
  refine ⟨?_, ⟨by rfl, ?_⟩, ?_⟩
  rotate_left
  · intro w hSw
    (try dsimp only at hSw)
    (go_simp; try with_reducible rfl)
  (try simp only [Act.put, List.setIfInBounds_toArray, List.set_cons_zero, List.set_cons_succ])
  refine take_at 10 (by kernel_rfl) (by kernel_rfl) (by kernel_rfl) (fun _ _ d _ _ h => by cases d <;> exact h) ⟨_, rfl⟩ (by assumption) (fun o ho => ?_)
  simp only [List.getElem?_toArray, List.getElem?_cons_succ, List.getElem?_cons_zero, Option.some.injEq] at ho
  subst ho
  refine ⟨?_, ⟨by rfl, ?_⟩, ?_⟩
  rotate_left
  · intro w hSw
    (try dsimp only at hSw)
    (go_simp; try with_reducible rfl)
  (try simp only [Act.put, List.setIfInBounds_toArray, List.set_cons_zero, List.set_cons_succ])
  refine wpAnyH_ready (rs := [11]) (by kernel_rfl) (by simp) ?_
  refine ready_at 11 ⟨_, rfl⟩ (fun o ho K hK => ?_) AllReadyH.nil
  simp only [List.getElem?_toArray, List.getElem?_cons_succ, List.getElem?_cons_zero, Option.some.injEq] at ho
  subst ho
  go_simp
  refine hK.out _ _ (hS1 _ (hfd.step (fr5 _ _ _ _ _ _ _) (fun _ h => .inl h))) (fun hHeld2 => ?_)
  refine wpAnyH_done (by kernel_rfl) ?_ _
  (try dsimp only)
  go_wp2_with fail
  exact bodyPost_ret (results_next rfl _ _ _ _ _ _ _ _ _ rfl (HP1.out.set5 _ _ _ _ _).drew) rfl (next_end HP0.out HL0.out HBW.out HF.out HP2.out hne HT.out)
end
end Go.Proofs.YthiadenmljbdaaaGreatDoor
end
section
namespace Go.Proofs.YthiadenmljbdaaaGreatDoor
open Go.RowKit
theorem info_tree : (Tryz.prog.info? 28).map (fun i => (i.zero, i.size, i.bytes)) = some (some (.agg #[.int .i64 0, .string ⟨#[]⟩, .slice none 0 0, .bool false, .slice none 0 0, .slice none 0 0]), 6, 104) := by kernel_rfl
abbrev Kc := Value × Value × Value × Value × Value × Value
def kcl (r : Kc) : List Value := [r.1, r.2.1, r.2.2.1, r.2.2.2.1, r.2.2.2.2.1, r.2.2.2.2.2]
def kc0 : Kc := (.int .i64 0, .string ⟨#[]⟩, .slice none 0 0, .bool false, .slice none 0 0, .slice none 0 0)
def kcs (rs : List Kc) : List Value := rs.flatMap kcl
def kz6 : Array Value := #[.int .i64 0, .string ⟨#[]⟩, .slice none 0 0, .bool false, .slice none 0 0, .slice none 0 0]
def kzs (k : Nat) : List Value := (Builtin.zeroCells kz6 k).toList
theorem kcs_length (rs : List Kc) : (kcs rs).length = rs.length * 6 := by
  induction rs with
  | nil => rfl
  | cons r rs ih => simp only [kcs, List.flatMap_cons, List.length_append, kcl, List.length_cons, List.length_nil] at ih ⊢; omega
theorem kcs_append (a b : List Kc) : kcs (a ++ b) = kcs a ++ kcs b := by simp [kcs]
theorem kcs_get (rs : List Kc) (i j : Nat) (h : i < rs.length) (hj : j < 6) : (kcs rs)[i * 6 + j]? = (kcl (rs.getD i kc0))[j]? := by
  induction rs generalizing i with
  | nil => simp at h
  | cons r rs ih =>
    have e : kcs (r :: rs) = kcl r ++ kcs rs := rfl
    have hl : (kcl r).length = 6 := rfl
    cases i with
    | zero => rw [e, List.getElem?_append_left (by rw [hl]; omega)]; simp [List.getD]
    | succ i =>
      rw [e, List.getElem?_append_right (by rw [hl]; omega), hl, show (i + 1) * 6 + j - 6 = i * 6 + j by omega, ih i (by simpa using h)]
      simp [List.getD]
theorem kzs_length (k : Nat) : (kzs k).length = k * 6 := by simp [kzs, Builtin.zeroCells, kz6]
theorem kzs_get (k j : Nat) (h : j < k * 6) : (kzs k)[j]? = some (kz6[j % 6]!) := by
  simp [kzs, Builtin.zeroCells, kz6, h]
theorem kzs_drop (k : Nat) : (kzs (k + 1)).drop 6 = kzs k := by
  apply List.ext_getElem?
  intro j
  rw [List.getElem?_drop]
  rcases Nat.lt_or_ge j (k * 6) with h | h
  · rw [kzs_get _ _ (by omega), kzs_get _ _ h, show (6 + j) % 6 = j % 6 by omega]
  · rw [List.getElem?_eq_none (by rw [kzs_length]; omega), List.getElem?_eq_none (by rw [kzs_length]; omega)]
def OutK (w : World) (base : Nat) (v : Value) (rs : List Kc) : Prop := (v = .slice none 0 0 ∧ rs = []) ∨
  ∃ g cap cur, v = .slice (some ⟨g, 0, none⟩) rs.length cap ∧ base ≤ g ∧ w.heap[g]? = some (.cells cur 28 (0, 0)) ∧ rs.length ≤ cap ∧ cap ≤ maxLen ∧ cur.toList = kcs rs ++ kzs (cap - rs.length)
section
variable {w w' : World} {base : Nat} {v : Value} {rs : List Kc}
theorem OutK.nil (w : World) (base : Nat) : OutK w base (.slice none 0 0) [] := .inl ⟨rfl, rfl⟩
theorem OutK.kept (h : OutK w base v rs) {row : Option Nat} (hg : w.grownBy w' row) (hne : v.ownBlock = none ∨ v.ownBlock ≠ row) : OutK w' base v rs := by
  rcases h with h | ⟨g, cap, cur, rfl, h1, h2, h3⟩
  · exact .inl h
  · refine .inr ⟨g, cap, cur, rfl, h1, (hg.block g (Array.getElem?_eq_some_iff.1 h2).1 ?_).trans h2, h3⟩
    rcases hne with hne | hne
    · cases hne
    · exact hne
theorem OutK.below (h : OutK w base v rs) (hb : Below w.heap.size w w') : OutK w' base v rs := h.kept (gb_of_below hb none) (by cases v.ownBlock <;> simp)
theorem OutK.le (h : OutK w base v rs) {base' : Nat} (hb : base' ≤ base) : OutK w base' v rs := by
  rcases h with h | ⟨g, cap, cur, rfl, h1, h2⟩
  · exact .inl h
  · exact .inr ⟨g, cap, cur, rfl, Nat.le_trans hb h1, h2⟩
theorem OutK.size {g cap : Nat} {cur : Array Value} (hc : cur.toList = kcs rs ++ kzs (cap - rs.length)) (hle : rs.length ≤ cap) (_ : w.heap[g]? = some (.cells cur 28 (0, 0))) : cur.size = cap * 6 := by
  have := congrArg List.length hc
  rw [List.length_append, kcs_length, kzs_length, Array.length_toList] at this
  omega
theorem OutK.cells (h : OutK w base v rs) (hn : 0 < rs.length) : ∃ g cap, v = .slice (some ⟨g, 0, none⟩) rs.length cap ∧ ∀ i, i < rs.length → ∀ j, j < 6 → w.cell? ⟨g, i * 6 + j, none⟩ = (kcl (rs.getD i kc0))[j]? := by
  rcases h with ⟨_, h⟩ | ⟨g, cap, cur, rfl, h1, h2, h3, h4, h5⟩
  · rw [h] at hn; exact absurd hn (by simp)
  · refine ⟨g, cap, rfl, fun i hi j hj => ?_⟩
    rw [cell_of_row _ _ _ _ _ _ h2, ← Array.getElem?_toList, h5, List.getElem?_append_left (by rw [kcs_length]; omega), kcs_get _ _ _ hi hj]
theorem OutK.slice (h : OutK w base v rs) : ∃ A c, v = .slice A rs.length c := by
  rcases h with ⟨rfl, rfl⟩ | ⟨g, cap, cur, rfl, _⟩
  · exact ⟨none, 0, rfl⟩
  · exact ⟨_, _, rfl⟩
end
theorem wpList_append_kid {P : Program} (w : World) {ops : Array Oper} {rest : List Oper} {o : Oper} {a : Act} {Q : Exit → Act → World → Prop} (hgd : o.guard = none) (s x : Operand) (t : TypeId)
    (ho : o.op = .call { callee := .builtin .append, args := #[s, x], argTypes := #[t, t] })
    (base : Nat) (i : TypeInfo) (ht : P.underlying t = some (.slice 28)) (hi : P.info? 28 = some i) (hz : i.zero = some (.agg #[.int .i64 0, .string ⟨#[]⟩, .slice none 0 0, .bool false, .slice none 0 0, .slice none 0 0])) (hsize : i.size = 6) (hby : i.bytes = 104)
    (v : Value) (rs : List Kc) (hs : a.eval s = v) (hown : OutK w base v rs)
    (g c : Nat) (r : Kc) (hx : a.eval x = .slice (some ⟨g, 0, none⟩) 1 c) (hc : ∀ j u, (kcl r)[j]? = some u → w.cell? ⟨g, j, none⟩ = some u) (hone : ∀ u ∈ kcl r, u.oneCell' = true)
    (hb : rs.length < 1048576) (hbase : base ≤ w.heap.size)
    (h : ∀ g' cap w', OutK w' base (.slice (some ⟨g', 0, none⟩) (rs.length + 1) cap) (rs ++ [r]) → w.grownBy w' v.ownBlock → (v.ownBlock = some g' ∨ w.heap.size ≤ g') → wpList P ops Q rest (a.put o.dst (.slice (some ⟨g', 0, none⟩) (rs.length + 1) cap)) w') : wpList P ops Q (o :: rest) a w := by
  refine wpList_plain hgd fun K hK => ?_
  have hnews : ∀ j u, (kcl r)[j]? = some u → w.cell? ((⟨g, 0, none⟩ : Addr).add j) = some u := fun j u hu => by rw [Addr.add_lit, Nat.zero_add]; exact hc j u hu
  have key : ∃ g' cap w', (Builtin.append_ #[t, t] o.type #[v, .slice (some ⟨g, 0, none⟩) 1 c]).run P w = .ok (.slice (some ⟨g', 0, none⟩) (rs.length + 1) cap) w' ∧ OutK w' base (.slice (some ⟨g', 0, none⟩) (rs.length + 1) cap) (rs ++ [r]) ∧ w.grownBy w' v.ownBlock ∧ (v.ownBlock = some g' ∨ w.heap.size ≤ g') := by
    have hzc : ∀ k, (Builtin.zeroCells (Value.cells (.agg #[.int .i64 0, .string ⟨#[]⟩, .slice none 0 0, .bool false, .slice none 0 0, .slice none 0 0])) k).toList = kzs k := fun k => rfl
    rcases hown with ⟨rfl, rfl⟩ | ⟨g0, cap, cur, rfl, a1, a2, a3, a4, a5⟩
    · have hrn := run_append_nil (P := P) (w := w) t o.type 28 i _ ht hi hz ⟨g, 0, none⟩ 1 c (kcl r) (by rw [hsize]; rfl) hnews (by omega) (by omega) (by rw [hby]; omega)
      refine ⟨_, _, _, hrn, .inr ⟨_, _, _, rfl, hbase, heap_alloc_new w.drew _, grownCap_ge w 1 0 _, grownCap_le_maxLen w 1 0 _ (by unfold maxLen; omega), ?_⟩, ⟨rfl, rfl, rfl, by simp, fun k hk _ => heap_alloc_old w.drew _ hk⟩, .inr (Nat.le_refl _)⟩
      rw [Array.toList_append, hzc]
      simp [kcs]
    · by_cases hroom : rs.length + 1 ≤ cap
      · have hcs := OutK.size (w := w) a5 a3 a2
        have hrn := run_append_room (P := P) w t o.type 28 i ht hi g0 rs.length cap cur a2 ⟨g, 0, none⟩ 1 c (kcl r) (by rw [hsize]; rfl) hnews hone hroom (by rw [hsize, hcs, show (kcl r).length = 6 from rfl]; omega)
        refine ⟨_, _, _, hrn, .inr ⟨g0, cap, _, by rw [List.length_append]; rfl, a1, setRow_heap _ _ _ _ _ _ a2, by rw [List.length_append]; exact hroom, a4, ?_⟩, ⟨rfl, rfl, rfl, by simp, fun k _ hk => setRow_other w g0 k _ (fun e => hk (by simp [Value.ownBlock, e]))⟩, .inl rfl⟩
        rw [List.toList_toArray, a5, hsize, show (kcl r).length = 6 from rfl, List.take_append_of_le_length (by rw [kcs_length]; omega), List.take_of_length_le (by rw [kcs_length]; omega), List.drop_append, kcs_append]
        rw [List.drop_of_length_le (by rw [kcs_length]; omega), kcs_length, show rs.length * 6 + 6 - rs.length * 6 = 6 by omega, List.nil_append]
        obtain ⟨k, hk⟩ : ∃ k, cap - rs.length = k + 1 := ⟨cap - rs.length - 1, by omega⟩
        rw [hk, kzs_drop, List.length_append, show cap - (rs.length + [r].length) = k by simp; omega]
        simp [kcs]
      · have hcl : ∀ j u, (kcs rs)[j]? = some u → w.cell? ((⟨g0, 0, none⟩ : Addr).add j) = some u := fun j u hu => by
          have hj := (List.getElem?_eq_some_iff.1 hu).1
          rw [Addr.add_lit, Nat.zero_add, cell_of_row _ _ _ _ _ _ a2, ← Array.getElem?_toList, a5, List.getElem?_append_left hj, hu]
        have hrn := run_append_grow (P := P) (w := w) t o.type 28 i _ ht hi hz ⟨g0, 0, none⟩ rs.length cap (kcs rs) (by rw [hsize, kcs_length]) hcl ⟨g, 0, none⟩ 1 c (kcl r) (by rw [hsize]; rfl) hnews (by omega) (by omega) (by rw [hby]; exact growslice_fits (by omega) (by omega))
        refine ⟨_, _, _, hrn, .inr ⟨_, _, _, by rw [List.length_append]; rfl, hbase, heap_alloc_new w.drew _, by rw [List.length_append]; exact grownCap_ge w (rs.length + 1) cap _, grownCap_le_maxLen w (rs.length + 1) cap _ (by unfold maxLen; omega), ?_⟩, ⟨rfl, rfl, rfl, by simp, fun k hk _ => heap_alloc_old w.drew _ hk⟩, .inr (Nat.le_refl _)⟩
        rw [Array.toList_append, Array.toList_append, hzc, kcs_append, List.length_append]
        simp [kcs]
  obtain ⟨g', cap', w', hrun, k1, k2, k3⟩ := key
  unfold Oper.wp execOp
  simp only [ho, resolve, invoke, builtin, Sem.run_bind, Sem.run_pure, Result.andThen_ok, List.map_toArray, List.map_cons, List.map_nil, hs, hx, hrun]
  exact hK _ _ (h g' cap' w' k1 k2 k3)
end Go.Proofs.YthiadenmljbdaaaGreatDoor
end

/-
  l: the parts QRead QGot QAns.
-/
import Derived.Test.YthiadenmljbdaaaGreatDoorB6l
import Derived.Test.YthiadenmljbdaaaGreatDoorB13l
import Derived.Deep.Cut
import Derived.WalkLawsBesides
import Derived.Test.YthiadenmljbdaaaGreatDoorB9l
namespace Go.Proofs.YthiadenmljbdaaaGreatDoor
section
open Go.RowKit
theorem zg1 {α : Type _} {l : List α} {i : Nat} : l.toArray[i]? = l[i]? := List.getElem?_toArray
theorem zg2 {α : Type _} {a : α} {l : List α} {i : Nat} : (a :: l)[i + 1]? = l[i]? := List.getElem?_cons_succ
theorem zg3 {α : Type _} {a : α} {l : List α} : (a :: l)[0]? = some a := List.getElem?_cons_zero
theorem zg4 {α : Type _} {a b : α} : (some a = some b) = (a = b) := Option.some.injEq a b
theorem zs1 {α : Type _} (l : List α) (i : Nat) (a : α) : l.toArray.setIfInBounds i a = (l.set i a).toArray := List.setIfInBounds_toArray l i a
theorem zs2 {α : Type _} {a b : α} {l : List α} : (a :: l).set 0 b = b :: l := List.set_cons_zero
theorem zs3 {α : Type _} {a b : α} {l : List α} {i : Nat} : (a :: l).set (i + 1) b = a :: l.set i b := List.set_cons_succ
attribute [local go_sem] Oper.semAt_some
section
variable {P : Program} {ops : Array Oper} {Q : Exit → Act → World → Prop} {md : Region.Mode} {S : World → Prop}
theorem take_at {fuel : Nat} {listed : Array Bool} {a : Act} {w : World} (i : Nat) (hs : Region.noSelect ops = true) (hf : Region.free md ops listed i = true) (hr : (Region.ready md ops listed).contains i = true)
    (hQ : ∀ c a d v w, Q (.panic c) (a.put d v) w → Q (.panic c) a w) (hex : ∃ o, ops[i]? = some o) (hS : S w)
    (h : ∀ o, ops[i]? = some o → ∃ v, (Region.wanted o (yielded ops a.tmps) = true ∧ ∀ w, S w → (execOp a.eval o).run P w = .ok (.value v) w) ∧ wpAnyH P md ops Q S fuel (listed.setIfInBounds i true) (a.put o.dst v) w) :
    wpAnyH P md ops Q S (fuel + 1) listed a w := by
  obtain ⟨o, ho⟩ := hex
  obtain ⟨v, hy, hrest⟩ := h o ho
  exact wpAnyH_take ho hs hf hr (fun c a w h => hQ c a _ _ w h) (Or.inl hy) hS hrest
theorem ready_at {fuel : Nat} {listed : Array Bool} {a : Act} {w : World} {rs : List Nat} (i : Nat) (hex : ∃ o, ops[i]? = some o)
    (h : ∀ o, ops[i]? = some o → ∀ K' : Act → World → Prop, Shut (∀ a w, S w → (S w → wpAnyH P md ops Q S fuel (listed.setIfInBounds i true) a w) → K' a w) → if Region.wanted o (yielded ops a.tmps) = true then Oper.wp P o a w K' Q else K' (a.put o.dst undef) w)
    (hs : AllReadyH P md ops Q S fuel listed a w rs) : AllReadyH P md ops Q S fuel listed a w (i :: rs) := by
  obtain ⟨o, ho⟩ := hex
  exact AllReadyH.cons ho (h o ho) hs
end
def Lm (w : World) (R0 : Nat → Prop) (A : Option Addr) (c : Nat) (l : List Nat) : Prop :=
 SlR w R0 A c l ∧ c ≤ maxLen ∧ ((A = none ∧ c = 0) ∨ ∃ g cs, A = some ⟨g, 0, none⟩ ∧ R0 g ∧ w.heap[g]? = some (.cells cs 69 (0, 0)) ∧ c ≤ cs.size ∧ ∀ u ∈ cs.toList, ∃ z : Int, u = .int .u32 z)
def Kp (R0 : Nat → Prop) (w w' : World) : Prop := ∀ b o, R0 b → w.heap[b]? = some o → w'.heap[b]? = some o
theorem Kp.cell {R0 : Nat → Prop} {w w' : World} (h : Kp R0 w w') {p : Addr} {v : Value} (hp : R0 p.block) (hc : w.cell? p = some v) : w'.cell? p = some v := by
 have hlt := World.block_lt_of_cell? w p hc
 have he := h p.block _ hp (Array.getElem?_eq_getElem hlt)
 exact (World.cell?_of_block (a := p) (he.trans (Array.getElem?_eq_getElem hlt).symm)).trans hc
theorem Kp.of_fr {R0 x : Nat → Prop} {w w' : World} (h : Fr w w' x) (hx : ∀ b, R0 b → ¬ x b) : Kp R0 w w' := fun b _ hb ho => (h.block b (Array.getElem?_eq_some_iff.1 ho).1 (hx b hb)).trans ho
theorem Kp.of_below {R0 : Nat → Prop} {w w' : World} (h : Below w.heap.size w w') : Kp R0 w w' := fun b _ _ ho => (h.block b (Array.getElem?_eq_some_iff.1 ho).1).trans ho
theorem Kp.trans {R0 : Nat → Prop} {w w' w'' : World} (h : Kp R0 w w') (h' : Kp R0 w' w'') : Kp R0 w w'' := fun b o hb ho => h' b o hb (h b o hb ho)
theorem Lm.keep {w w' : World} {R0 : Nat → Prop} {A : Option Addr} {c : Nat} {l : List Nat} (h : Lm w R0 A c l) (hk : Kp R0 w w') : Lm w' R0 A c l := by
 refine ⟨h.1.keep (fun p v hp hc => hk.cell hp hc) (fun _ h => h), h.2.1, ?_⟩
 rcases h.2.2 with h | ⟨g, cs, h1, h2, h3, h4⟩
 · exact .inl h
 · exact .inr ⟨g, cs, h1, h2, hk g _ h2 h3, h4⟩
theorem Lm.sl {w : World} {R0 : Nat → Prop} {A : Option Addr} {c : Nat} {l : List Nat} (h : Lm w R0 A c l) : Sl w A l.length c l := h.1.1
def Wds (w : World) (R0 : Nat → Prop) (A : Option Addr) (ws : List Wd) : Prop := 0 < ws.length → ∃ g, A = some ⟨g, 0, none⟩ ∧ R0 g ∧ ∀ i, i < ws.length → ∃ B d, w.cell? ⟨g, i * 5, none⟩ = some (.int .i64 ((ws.getD i wd0).1 : Nat)) ∧ w.cell? ⟨g, i * 5 + 1, none⟩ = some (.string (ws.getD i wd0).2.1) ∧
 w.cell? ⟨g, i * 5 + 2, none⟩ = some (.bool false) ∧ w.cell? ⟨g, i * 5 + 3, none⟩ = some (.slice B (ws.getD i wd0).2.2.1.length d) ∧ w.cell? ⟨g, i * 5 + 4, none⟩ = some (.int .i64 ((ws.getD i wd0).2.2.2 : Nat)) ∧ Lm w R0 B d (ws.getD i wd0).2.2.1
theorem Wds.keep {w w' : World} {R0 : Nat → Prop} {A : Option Addr} {ws : List Wd} (h : Wds w R0 A ws) (hk : Kp R0 w w') : Wds w' R0 A ws := fun hn => by
 obtain ⟨g, hA, hg, hc⟩ := h hn
 refine ⟨g, hA, hg, fun i hi => ?_⟩
 obtain ⟨B, d, h0, h1, h2, h3, h4, h5⟩ := hc i hi
 exact ⟨B, d, hk.cell hg h0, hk.cell hg h1, hk.cell hg h2, hk.cell hg h3, hk.cell hg h4, h5.keep hk⟩
def Pa (w : World) (R : Nat) (R0 : Nat → Prop) (A : Option Addr) (c : Nat) (ws : List Wd) (e a : Nat) : Prop :=
 Blk w R 66 #[.slice A ws.length c, .int .i64 (a : Nat), .int .i64 (e : Nat)] ∧ ¬ R0 R ∧ Wds w R0 A ws ∧ a ≤ ws.length ∧ ws.length ≤ 1048576
section
variable {w w' : World} {R : Nat} {R0 : Nat → Prop} {A : Option Addr} {c e a : Nat} {ws : List Wd}
theorem Pa.below (h : Pa w R R0 A c ws e a) (hb : Below w.heap.size w w') : Pa w' R R0 A c ws e a := ⟨h.1.below hb, h.2.1, h.2.2.1.keep (.of_below hb), h.2.2.2⟩
theorem P.isW_drop (s : ByteArray) (ws : List Wd) (i : Nat) : P.isW s (ws.drop i) = (decide (i < ws.length) && decide ((ws.getD i wd0).2.1 = s)) := by
 by_cases h : i < ws.length
 · rw [List.drop_eq_getElem_cons h]
   simp [P.isW, h, List.getD]
 · rw [List.drop_eq_nil_of_le (by omega)]
   simp [P.isW, h]
theorem P.kd_drop (ws : List Wd) (i : Nat) : P.kd (ws.drop i) = if i < ws.length then (ws.getD i wd0).1 else 0 := by
 by_cases h : i < ws.length
 · rw [List.drop_eq_getElem_cons h]
   simp [P.kd, h, List.getD]
 · rw [List.drop_eq_nil_of_le (by omega)]
   simp [P.kd, h]
theorem three {w : World} {b : Nat} {t : TypeId} {v0 v1 v2 : Value} (h : Blk w b t #[v0, v1, v2]) : w.cell? ⟨b, 0, none⟩ = some v0 ∧ w.cell? ⟨b, 1, none⟩ = some v1 ∧ w.cell? ⟨b, 2, none⟩ = some v2 := ⟨h.cell 0, h.cell 1, h.cell 2⟩
theorem beq_str (x s : ByteArray) : (x.toList == s.toList) = decide (x = s) := by
 rw [Bool.eq_iff_iff]
 simp [ByteArray.toList_eq]
 exact ⟨fun h => ByteArray.ext h, fun h => by rw [h]⟩
theorem wrap_nat {k : Int} (h0 : 0 ≤ k) (h : k ≤ 4611686018427387904) : IntKind.i64.wrap k = k := by simp [IntKind.wrap, IntKind.bits, IntKind.signed]; omega
set_option maxRecDepth 100000 in
set_option maxHeartbeats 1600000 in
theorem peek_r (h : Pa w R R0 A c ws e a) (s : ByteArray) (on : Nat) (hon : on ≤ 1) (z : Int) (hz : z = (on : Nat)) :
    Calls Tryz.prog 110 #[.pointer (some ⟨R, 0, none⟩), .string s, .int .i64 z] w fun ex w' => ex = .returned (.bool (P.isW s (ws.drop (a + on)))) ∧ Below w.heap.size w w' := by
  subst hz
  rw [P.isW_drop]
  obtain ⟨hR, _, hws, ha, hn⟩ := h
  obtain ⟨c0, c1, c2⟩ := three hR
  obtain ⟨n, hn'⟩ : ∃ n, ws.length = n := ⟨_, rfl⟩
  unfold Wds at hws
  rw [hn'] at c0 hws ha hn ⊢
  obtain ⟨q, hq⟩ : ∃ q, a + on = q := ⟨_, rfl⟩
  rw [hq]
  have hw : IntKind.i64.wrap ((a : Int) + (on : Int)) = (q : Int) := by rw [wrap_nat (by omega) (by omega)]; omega
  by_cases hi : q < n
  ·
   obtain ⟨g, rfl, _, hc⟩ := hws (by omega)
   obtain ⟨B, d, _, e1, _⟩ := hc _ hi
   have d1 : decide (q < n) = true := decide_eq_true hi
   have i0 : (0 : Int) ≤ (q : Int) := by omega
   have i1 : (q : Int) < n := by omega
   clear hws hc hR hn' hq
   go_enter Tryz.func110, Tryz.ntmps110
   go_upto_region 1 with (fail)
   go_quiet (fail)
   go_wp2_with fail
   go_ret
   exact ⟨by simp [hi, beq_str], below_drewN (Below.refl _ _) _⟩
  ·
   have d1 : decide (q < n) = false := decide_eq_false hi
   clear hws hR hn' hq
   go_enter Tryz.func110, Tryz.ntmps110
   go_upto_region 1 with (fail)
   go_quiet (fail)
   go_wp2_with fail
   go_ret
   exact ⟨by simp [hi], below_drewN (Below.refl _ _) _⟩
set_option maxRecDepth 100000 in
set_option maxHeartbeats 1600000 in
theorem kind_r (h : Pa w R R0 A c ws e a) :
    Calls Tryz.prog 161 #[.pointer (some ⟨R, 0, none⟩)] w fun ex w' => ex = .returned (.int .i64 (P.kd (ws.drop a) : Nat)) ∧ Below w.heap.size w w' := by
  rw [P.kd_drop]
  obtain ⟨hR, _, hws, ha, hn⟩ := h
  obtain ⟨c0, c1, c2⟩ := three hR
  obtain ⟨n, hn'⟩ : ∃ n, ws.length = n := ⟨_, rfl⟩
  unfold Wds at hws
  rw [hn'] at c0 hws ha hn ⊢
  by_cases hi : a < n
  ·
   obtain ⟨g, rfl, _, hc⟩ := hws (by omega)
   obtain ⟨B, d, e0, _⟩ := hc _ hi
   have d1 : decide (a < n) = true := decide_eq_true hi
   have i0 : (0 : Int) ≤ (a : Int) := by omega
   have i1 : (a : Int) < n := by omega
   clear hws hc hR hn'
   go_enter Tryz.func161, Tryz.ntmps161
   go_upto_region 1 with (fail)
   go_quiet (fail)
   go_upto_region 2 with (fail)
   go_quiet (fail)
   go_wp2_with fail
   go_ret
   exact ⟨by simp, below_drewN (Below.refl _ _) _⟩
  ·
   have d1 : decide (a < n) = false := decide_eq_false hi
   clear hws hR hn'
   go_enter Tryz.func161, Tryz.ntmps161
   go_upto_region 1 with (fail)
   go_quiet (fail)
   go_wp2_with fail
   go_ret
   exact ⟨by simp, below_drewN (Below.refl _ _) _⟩
abbrev stopV (code p : Nat) : PanicEntry := { v := .iface 62 (.agg #[.int .i64 (code : Nat), .int .i64 (p : Nat)]), recovered := false }
theorem P.wrong_drop (e : Nat) (ws : List Wd) (i : Nat) : P.wrong e (ws.drop i) = if i < ws.length then .bad 41 (ws.getD i wd0).2.2.2 else .bad 42 e := by
 by_cases h : i < ws.length
 · rw [List.drop_eq_getElem_cons h]
   simp [P.wrong, h, List.getD]
 · rw [List.drop_eq_nil_of_le (by omega)]
   simp [P.wrong, h]
set_option maxRecDepth 100000 in
set_option maxHeartbeats 1600000 in
theorem wrong_r (h : Pa w R R0 A c ws e a) :
    Calls Tryz.prog 39 #[.pointer (some ⟨R, 0, none⟩)] w fun ex w' => ∃ cd p, P.wrong e (ws.drop a) = .bad cd p ∧ ex = .panicked [stopV cd p] ∧ Below w.heap.size w w' := by
  rw [P.wrong_drop]
  obtain ⟨hR, _, hws, ha, hn⟩ := h
  obtain ⟨c0, c1, c2⟩ := three hR
  obtain ⟨n, hn'⟩ : ∃ n, ws.length = n := ⟨_, rfl⟩
  unfold Wds at hws
  rw [hn'] at c0 hws ha hn ⊢
  by_cases hi : a < n
  ·
   obtain ⟨g, rfl, _, hc⟩ := hws (by omega)
   obtain ⟨B, d, _, _, _, _, e4, _⟩ := hc _ hi
   rw [if_pos hi]
   obtain ⟨p, hp⟩ : ∃ p, (ws.getD a wd0).2.2.2 = p := ⟨_, rfl⟩
   rw [hp] at e4 ⊢
   have d1 : decide (n ≤ a) = false := decide_eq_false (by omega)
   have i0 : (0 : Int) ≤ (a : Int) := by omega
   have i1 : (a : Int) < n := by omega
   clear hws hc hR hn' hp
   go_enter Tryz.func39, Tryz.ntmps39
   go_upto_region 0 with (fail)
   go_quiet (fail)
   go_upto_region 2 with (fail)
   refine wp_region_held_drew (S := fun w' => ((w'.cell? ⟨R, 0, none⟩ = some (.slice (some ⟨g, 0, none⟩) n c) ∧ w'.cell? ⟨R, 1, none⟩ = some (.int .i64 (a : Nat))) ∧ w'.cell? ⟨g, a * 5 + 4, none⟩ = some (.int .i64 (p : Nat))) ∧ Below w.heap.size w w') (by kernel_rfl) ⟨⟨⟨c0, c1⟩, e4⟩, (below_drewN (Below.refl _ _) _).drew⟩ (fun hHeld => ?_)
   refine take_at 0 (by kernel_rfl) (by kernel_rfl) (by kernel_rfl) (fun _ _ d _ _ h => by cases d <;> exact h) ⟨_, rfl⟩ (by assumption) (fun o ho => ?_)
   simp only [zg1, zg3, zg4] at ho
   subst ho
   refine ⟨?_, ⟨by rfl, ?_⟩, ?_⟩
   rotate_left
   · intro w hSw
     (try dsimp only at hSw)
     (go_simp; try with_reducible rfl)
   (try simp only [Act.put, zs1, zs2, zs3])
   refine take_at 1 (by kernel_rfl) (by kernel_rfl) (by kernel_rfl) (fun _ _ d _ _ h => by cases d <;> exact h) ⟨_, rfl⟩ (by assumption) (fun o ho => ?_)
   simp only [zg1, zg2, zg3, zg4] at ho
   subst ho
   refine ⟨?_, ⟨by rfl, ?_⟩, ?_⟩
   rotate_left
   · intro w hSw
     (try dsimp only at hSw)
     (go_simp; try with_reducible rfl)
   (try simp only [Act.put, zs1, zs2, zs3])
   refine take_at 2 (by kernel_rfl) (by kernel_rfl) (by kernel_rfl) (fun _ _ d _ _ h => by cases d <;> exact h) ⟨_, rfl⟩ (by assumption) (fun o ho => ?_)
   simp only [zg1, zg2, zg3, zg4] at ho
   subst ho
   refine ⟨?_, ⟨by rfl, ?_⟩, ?_⟩
   rotate_left
   · intro w hSw
     (try dsimp only at hSw)
     (go_simp; try with_reducible rfl)
   (try simp only [Act.put, zs1, zs2, zs3])
   refine take_at 3 (by kernel_rfl) (by kernel_rfl) (by kernel_rfl) (fun _ _ d _ _ h => by cases d <;> exact h) ⟨_, rfl⟩ (by assumption) (fun o ho => ?_)
   simp only [zg1, zg2, zg3, zg4] at ho
   subst ho
   refine ⟨?_, ⟨by rfl, ?_⟩, ?_⟩
   rotate_left
   · intro w hSw
     (try dsimp only at hSw)
     (go_simp; try with_reducible rfl)
   (try simp only [Act.put, zs1, zs2, zs3])
   refine take_at 4 (by kernel_rfl) (by kernel_rfl) (by kernel_rfl) (fun _ _ d _ _ h => by cases d <;> exact h) ⟨_, rfl⟩ (by assumption) (fun o ho => ?_)
   simp only [zg1, zg2, zg3, zg4] at ho
   subst ho
   refine ⟨?_, ⟨by rfl, ?_⟩, ?_⟩
   rotate_left
   · intro w hSw
     (try dsimp only at hSw)
     (go_simp; try with_reducible rfl)
   (try simp only [Act.put, zs1, zs2, zs3])
   refine take_at 5 (by kernel_rfl) (by kernel_rfl) (by kernel_rfl) (fun _ _ d _ _ h => by cases d <;> exact h) ⟨_, rfl⟩ (by assumption) (fun o ho => ?_)
   simp only [zg1, zg2, zg3, zg4] at ho
   subst ho
   refine ⟨?_, ⟨by rfl, ?_⟩, ?_⟩
   rotate_left
   · intro w hSw
     (try dsimp only at hSw)
     (go_simp; try with_reducible rfl)
   (try simp only [Act.put, zs1, zs2, zs3])
   refine take_at 6 (by kernel_rfl) (by kernel_rfl) (by kernel_rfl) (fun _ _ d _ _ h => by cases d <;> exact h) ⟨_, rfl⟩ (by assumption) (fun o ho => ?_)
   simp only [zg1, zg2, zg3, zg4] at ho
   subst ho
   refine ⟨?_, ⟨by rfl, ?_⟩, ?_⟩
   rotate_left
   · intro w hSw
     (try dsimp only at hSw)
     (go_simp; try with_reducible rfl)
   (try simp only [Act.put, zs1, zs2, zs3])
   refine take_at 7 (by kernel_rfl) (by kernel_rfl) (by kernel_rfl) (fun _ _ d _ _ h => by cases d <;> exact h) ⟨_, rfl⟩ (by assumption) (fun o ho => ?_)
   simp only [zg1, zg2, zg3, zg4] at ho
   subst ho
   refine ⟨?_, ⟨by rfl, ?_⟩, ?_⟩
   rotate_left
   · intro w hSw
     (try dsimp only at hSw)
     (go_simp; try with_reducible rfl)
   (try simp only [Act.put, zs1, zs2, zs3])
   refine take_at 8 (by kernel_rfl) (by kernel_rfl) (by kernel_rfl) (fun _ _ d _ _ h => by cases d <;> exact h) ⟨_, rfl⟩ (by assumption) (fun o ho => ?_)
   simp only [zg1, zg2, zg3, zg4] at ho
   subst ho
   refine ⟨?_, ⟨by rfl, ?_⟩, ?_⟩
   rotate_left
   · intro w hSw
     (try dsimp only at hSw)
     (go_simp; try with_reducible rfl)
   (try simp only [Act.put, zs1, zs2, zs3])
   refine take_at 9 (by kernel_rfl) (by kernel_rfl) (by kernel_rfl) (fun _ _ d _ _ h => by cases d <;> exact h) ⟨_, rfl⟩ (by assumption) (fun o ho => ?_)
   simp only [zg1, zg2, zg3, zg4] at ho
   subst ho
   refine ⟨?_, ⟨by rfl, ?_⟩, ?_⟩
   rotate_left
   · intro w hSw
     (try dsimp only at hSw)
     (go_simp; try with_reducible rfl)
   (try simp only [Act.put, zs1, zs2, zs3])
   refine take_at 10 (by kernel_rfl) (by kernel_rfl) (by kernel_rfl) (fun _ _ d _ _ h => by cases d <;> exact h) ⟨_, rfl⟩ (by assumption) (fun o ho => ?_)
   simp only [zg1, zg2, zg3, zg4] at ho
   subst ho
   refine ⟨?_, ⟨by rfl, ?_⟩, ?_⟩
   rotate_left
   · intro w hSw
     (try dsimp only at hSw)
     (go_simp; try with_reducible rfl)
   (try simp only [Act.put, zs1, zs2, zs3])
   refine take_at 11 (by kernel_rfl) (by kernel_rfl) (by kernel_rfl) (fun _ _ d _ _ h => by cases d <;> exact h) ⟨_, rfl⟩ (by assumption) (fun o ho => ?_)
   simp only [zg1, zg2, zg3, zg4] at ho
   subst ho
   refine ⟨?_, ⟨by rfl, ?_⟩, ?_⟩
   rotate_left
   · intro w hSw
     (try dsimp only at hSw)
     (go_simp; try with_reducible rfl)
   (try simp only [Act.put, zs1, zs2, zs3])
   refine take_at 12 (by kernel_rfl) (by kernel_rfl) (by kernel_rfl) (fun _ _ d _ _ h => by cases d <;> exact h) ⟨_, rfl⟩ (by assumption) (fun o ho => ?_)
   simp only [zg1, zg2, zg3, zg4] at ho
   subst ho
   refine ⟨?_, ⟨by rfl, ?_⟩, ?_⟩
   rotate_left
   · intro w hSw
     (try dsimp only at hSw)
     (go_simp; try with_reducible rfl)
   (try simp only [Act.put, zs1, zs2, zs3])
   refine take_at 13 (by kernel_rfl) (by kernel_rfl) (by kernel_rfl) (fun _ _ d _ _ h => by cases d <;> exact h) ⟨_, rfl⟩ (by assumption) (fun o ho => ?_)
   simp only [zg1, zg2, zg3, zg4] at ho
   subst ho
   refine ⟨?_, ⟨by rfl, ?_⟩, ?_⟩
   rotate_left
   · intro w hSw
     (try dsimp only at hSw)
     (go_simp; try with_reducible rfl)
   (try simp only [Act.put, zs1, zs2, zs3])
   refine wpAnyH_ready (rs := [14]) (by kernel_rfl) (by simp) ?_
   refine ready_at 14 ⟨_, rfl⟩ (fun o ho K hK => ?_) AllReadyH.nil
   simp only [zg1, zg2, zg3, zg4] at ho
   subst ho
   go_simp
   exact ⟨rfl, _, _, rfl, rfl, hHeld.2⟩
  ·
   have d1 : decide (n ≤ a) = true := decide_eq_true (by omega)
   rw [if_neg hi]
   clear hws hR hn'
   go_enter Tryz.func39, Tryz.ntmps39
   go_upto_region 0 with (fail)
   go_quiet (fail)
   go_wp2_with fail
   exact ⟨rfl, _, _, rfl, rfl, below_drewN (Below.refl _ _) _⟩
theorem Pa.at (h : Pa w R R0 A c ws e a) (hf : Fr w w' (fun k => k = R)) {a' : Nat} (hb : Blk w' R 66 #[.slice A ws.length c, .int .i64 (a' : Nat), .int .i64 (e : Nat)]) (ha : a' ≤ ws.length) : Pa w' R R0 A c ws e a' :=
 ⟨hb, h.2.1, h.2.2.1.keep (.of_fr hf (fun b h0 e => by subst e; exact h.2.1 h0)), ha, h.2.2.2.2⟩
theorem Fr.of_below {x : Nat → Prop} (h : Below w.heap.size w w') : Fr w w' x := (Fr.refl w x).below h
set_option maxRecDepth 100000 in
set_option maxHeartbeats 1600000 in
theorem is_no (h : Pa w R R0 A c ws e a) (s : ByteArray) (hs : P.isW s (ws.drop a) = false) :
    Calls Tryz.prog 68 #[.pointer (some ⟨R, 0, none⟩), .string s] w fun ex w' => ex = .returned (.bool false) ∧ Below w.heap.size w w' := by
  have hp := peek_r h s 0 (by omega) 0 rfl
  rw [Nat.add_zero, hs] at hp
  have HP := Lib.hid hp
  clear hp hs h
  go_enter Tryz.func68, Tryz.ntmps68
  go_wp2_with (go_at_call 110; refine HP.out.mono ?_; rintro ex w1 ⟨rfl, hb⟩)
  go_ret
  exact ⟨rfl, hb⟩
set_option maxRecDepth 100000 in
set_option maxHeartbeats 1600000 in
theorem is_yes (h : Pa w R R0 A c ws e a) (s : ByteArray) (hs : P.isW s (ws.drop a) = true) :
    Calls Tryz.prog 68 #[.pointer (some ⟨R, 0, none⟩), .string s] w fun ex w' => ex = .returned (.bool true) ∧ Pa w' R R0 A c ws e (a + 1) ∧ Fr w w' (fun k => k = R) := by
  have hp := peek_r h s 0 (by omega) 0 rfl
  rw [Nat.add_zero, hs] at hp
  have hlt : a < ws.length := by
   rw [P.isW_drop] at hs
   simp at hs
   exact hs.1
  have hn := h.2.2.2.2
  have hw : IntKind.i64.wrap ((a : Int) + 1) = (a : Int) + 1 := wrap_nat (by omega) (by omega)
  have HP := Lib.hid hp
  have HPA := Lib.hid h
  clear hp hs h
  go_enter Tryz.func68, Tryz.ntmps68
  go_upto_region 2 with (go_at_call 110; refine HP.out.mono ?_; rintro ex w1 ⟨rfl, hb⟩)
  have h1 := HPA.out.below hb
  obtain ⟨c0, c1, c2⟩ := three h1.1
  have f1 := h1.1.free 1
  have HP1 := Lib.hid h1
  have HB := Lib.hid hb
  clear h1 hb
  go_wp2_with fail
  go_ret
  have hf := (Fr.refl w1 (fun k => k = R)).set (b := R) (.inl rfl) 1 (.int .i64 ((a : Int) + 1))
  exact ⟨rfl, HP1.out.at hf (HP1.out.1.put 1 _) (by omega), (Fr.of_below HB.out).step hf (fun _ h => .inl h)⟩
set_option maxRecDepth 100000 in
set_option maxHeartbeats 1600000 in
theorem must_yes (h : Pa w R R0 A c ws e a) (s : ByteArray) (hs : P.isW s (ws.drop a) = true) :
    Calls Tryz.prog 163 #[.pointer (some ⟨R, 0, none⟩), .string s] w fun ex w' => ex = .returned (.tuple #[]) ∧ Pa w' R R0 A c ws e (a + 1) ∧ Fr w w' (fun k => k = R) := by
  have HP := Lib.hid (is_yes h s hs)
  clear hs h
  go_enter Tryz.func163, Tryz.ntmps163
  go_wp2_with (go_at_call 68; refine HP.out.mono ?_; rintro ex w1 ⟨rfl, hb⟩)
  go_end0
  exact ⟨rfl, hb⟩
set_option maxRecDepth 100000 in
set_option maxHeartbeats 1600000 in
theorem must_no (h : Pa w R R0 A c ws e a) (s : ByteArray) (hs : P.isW s (ws.drop a) = false) :
    Calls Tryz.prog 163 #[.pointer (some ⟨R, 0, none⟩), .string s] w fun ex w' => ∃ cd p, P.wrong e (ws.drop a) = .bad cd p ∧ ex = .panicked [stopV cd p] ∧ Below w.heap.size w w' := by
  have HP := Lib.hid (is_no h s hs)
  have HPA := Lib.hid h
  clear hs h
  go_enter Tryz.func163, Tryz.ntmps163
  go_wp2_with (first
   | (go_at_call 68; refine HP.out.mono ?_; rintro ex w1 ⟨rfl, hb⟩)
   | (go_at_call 39; refine (wrong_r (HPA.out.below hb)).mono ?_; rintro ex w2 ⟨cd, p, hwr, rfl, hb2⟩))
  exact ⟨rfl, _, _, hwr, rfl, below_on hb hb2⟩
theorem Fr.cell {x : Nat → Prop} {q : Addr} {v : Value} (h : Fr w w' x) (hc : w.cell? q = some v) (hx : ¬ x q.block) : w'.cell? q = some v :=
 (World.cell?_of_block (a := q) (h.block _ (World.block_lt_of_cell? w q hc) hx)).trans hc
theorem fr5 (w : World) (b : Nat) (u0 u1 u2 u3 u4 : Value) : Fr w (((((w.setCell ⟨b, 0, none⟩ u0).setCell ⟨b, 1, none⟩ u1).setCell ⟨b, 2, none⟩ u2).setCell ⟨b, 3, none⟩ u3).setCell ⟨b, 4, none⟩ u4) (fun k => k = b) :=
 have h0 : Fr w w (fun k => k = b) := Fr.refl _ _
 ((((h0.set (b := b) (.inl rfl) 0 _).set (b := b) (.inl rfl) 1 _).set (b := b) (.inl rfl) 2 _).set (b := b) (.inl rfl) 3 _).set (b := b) (.inl rfl) 4 _
theorem Fr.drew {x : Nat → Prop} (h : Fr w w' x) : Fr w w'.drew x := h.below (Below.refl _ _).drew
theorem next_end {W W1 : World} {bt d t1 t4 : Nat} {t2 : ByteArray} {t3 : List Nat} {B : Option Addr} (h0 : Pa w R R0 A c ws e a) (hl : Lm w R0 B d t3) (hbw : Below w.heap.size w W) (hf : Fr W W1 (fun k => k = R)) (h1 : Pa W1 R R0 A c ws e (a + 1)) (hne : R ≠ bt) (hbt : bt = w.heap.size) :
    ∃ B' d', (Ending.returned (.agg #[.int .i64 (t1 : Nat), .string t2, .bool false, .slice B t3.length d, .int .i64 (t4 : Nat)]) : Ending) = .returned (.agg #[.int .i64 (t1 : Nat), .string t2, .bool false, .slice B' t3.length d', .int .i64 (t4 : Nat)]) ∧
     Lm ((((((W1.setCell ⟨bt, 0, none⟩ (.int .i64 (t1 : Nat))).setCell ⟨bt, 1, none⟩ (.string t2)).setCell ⟨bt, 2, none⟩ (.bool false)).setCell ⟨bt, 3, none⟩ (.slice B t3.length d)).setCell ⟨bt, 4, none⟩ (.int .i64 (t4 : Nat))).drew) R0 B' d' t3 ∧
     Pa ((((((W1.setCell ⟨bt, 0, none⟩ (.int .i64 (t1 : Nat))).setCell ⟨bt, 1, none⟩ (.string t2)).setCell ⟨bt, 2, none⟩ (.bool false)).setCell ⟨bt, 3, none⟩ (.slice B t3.length d)).setCell ⟨bt, 4, none⟩ (.int .i64 (t4 : Nat))).drew) R R0 A c ws e (a + 1) ∧
     Fr w ((((((W1.setCell ⟨bt, 0, none⟩ (.int .i64 (t1 : Nat))).setCell ⟨bt, 1, none⟩ (.string t2)).setCell ⟨bt, 2, none⟩ (.bool false)).setCell ⟨bt, 3, none⟩ (.slice B t3.length d)).setCell ⟨bt, 4, none⟩ (.int .i64 (t4 : Nat))).drew) (fun k => k = R) := by
  have hf5 := (fr5 W1 bt (.int .i64 (t1 : Nat)) (.string t2) (.bool false) (.slice B t3.length d) (.int .i64 (t4 : Nat))).drew
  have hfw : Fr w W (fun k => k = R) := Fr.of_below hbw
  have hfa := (hfw.step hf (fun k hk => .inl hk)).step hf5 (fun k hk => .inr (by have : k = bt := hk; omega))
  exact ⟨B, d, rfl, hl.keep (.of_fr hfa (fun b hb e => h0.2.1 (e ▸ hb))), h0.at hfa (hf5.blk h1.1 hne) h1.2.2.2.1, hfa⟩
theorem results_next {fn : Func} {p : Tmp} (h : fn.results = #[.cell p 98]) (tmps : Array Value) (w : World) (g : Nat) (t : TypeId) (a0 a1 a2 a3 a4 : Value)
    (hp : tmps.getD p undef = .pointer (some ⟨g, 0, none⟩)) (hg : Blk w g t #[a0, a1, a2, a3, a4]) :
    (results fn tmps).run Tryz.prog w = .ok (.agg #[a0, a1, a2, a3, a4]) w := by
  have hp' : tmps[p]?.getD undef = .pointer (some ⟨g, 0, none⟩) := by simpa using hp
  simp [results, h, hp', asAddr, run_loadVar_row w g _ 98 _ _ _ hg Tryz.underlying98 rfl sizeTok]
set_option maxRecDepth 100000 in
set_option maxHeartbeats 1600000 in
theorem next_r (h : Pa w R R0 A c ws e a) (hlt : a < ws.length) :
    Calls Tryz.prog 162 #[.pointer (some ⟨R, 0, none⟩)] w fun ex w' => ∃ B d, ex = .returned (.agg #[.int .i64 ((ws.getD a wd0).1 : Nat), .string (ws.getD a wd0).2.1, .bool false, .slice B (ws.getD a wd0).2.2.1.length d, .int .i64 ((ws.getD a wd0).2.2.2 : Nat)]) ∧ Lm w' R0 B d (ws.getD a wd0).2.2.1 ∧ Pa w' R R0 A c ws e (a + 1) ∧ Fr w w' (fun k => k = R) := by
  have hn := h.2.2.2.2
  have hw : IntKind.i64.wrap ((a : Int) + 1) = (a : Int) + 1 := wrap_nat (by omega) (by omega)
  have hw2 : IntKind.i64.wrap (a : Int) = (a : Int) := wrap_nat (by omega) (by omega)
  obtain ⟨g, rfl, hg, hc⟩ := h.2.2.1 (by omega)
  obtain ⟨B, d, e0, e1, e2, e3, e4, hlm⟩ := hc a hlt
  obtain ⟨⟨t1, t2, t3, t4⟩, ht⟩ : ∃ t, ws.getD a wd0 = t := ⟨_, rfl⟩
  rw [ht] at e0 e1 e3 e4 hlm ⊢
  dsimp only at e0 e1 e3 e4 hlm ⊢
  obtain ⟨W, hW, hp, hbW⟩ := made_blk w #[.int .i64 0, .string ⟨#[]⟩, .bool false, .slice none 0 0, .int .i64 0] 98
  obtain ⟨bt, hbt⟩ : ∃ b, b = w.heap.size := ⟨_, rfl⟩
  have hRlt := h.1.lt
  have hglt : g < w.heap.size := World.block_lt_of_cell? w _ e0
  have h1 := h.below hbW
  have e0 := keep_cell e0 hbW
  have e1 := keep_cell e1 hbW
  have e2 := keep_cell e2 hbW
  have e3 := keep_cell e3 hbW
  have e4 := keep_cell e4 hbW
  obtain ⟨n, hn'⟩ : ∃ n, ws.length = n := ⟨_, rfl⟩
  have hn2 := h1.1
  rw [hn'] at hn2 hlt hn
  obtain ⟨c0, c1, c2⟩ := three hn2
  have f1 := hn2.free 1
  have i0 : (0 : Int) ≤ (a : Int) := by omega
  have i1 : (a : Int) < n := by omega
  have HPA := Lib.hid h1
  have HBW := Lib.hid hbW
  have HN := Lib.hid hn'
  have HP0 := Lib.hid h
  have HL0 := Lib.hid hlm
  rw [← hbt] at hp
  have hne : R ≠ bt := by omega
  have HT := Lib.hid hbt
  clear h hc hlm h1 hbW hn' ht hn2
  go_enter Tryz.func162, Tryz.ntmps162
  go_upto_region 1 with (fail)
  rw [← hW, ← hbt]
  clear hW hbt
  go_upto_region 2 with (fail)
  have hf : Fr W (W.setCell ⟨R, 1, none⟩ (.int .i64 ((a : Int) + 1))) (fun k => k = R) := (Fr.refl W (fun k => k = R)).set (b := R) (.inl rfl) 1 (.int .i64 ((a : Int) + 1))
  have hB1 := HPA.out.1.put 1 (.int .i64 ((a : Int) + 1))
  have hp1 := hf.blk hp (fun e => hne e.symm)
  obtain ⟨W1, hW1⟩ : ∃ W1, W.setCell ⟨R, 1, none⟩ (.int .i64 ((a : Int) + 1)) = W1 := ⟨_, rfl⟩
  rw [hW1] at hf hB1 hp1 ⊢
  have hk := Kp.of_fr (R0 := R0) hf (fun b h0 e => HPA.out.2.1 (e ▸ h0))
  have HP2 : Hid (Pa W1 R R0 (some ⟨g, 0, none⟩) c ws e (a + 1)) := Lib.hid (HPA.out.at hf hB1 (by rw [HN.out]; omega))
  replace e0 := hk.cell hg e0
  replace e1 := hk.cell hg e1
  replace e2 := hk.cell hg e2
  replace e3 := hk.cell hg e3
  replace e4 := hk.cell hg e4
  simp only [zs1, zs2, zs3] at hB1
  rw [HN.out] at hB1
  obtain ⟨c0', c1', c2'⟩ := three hB1
  obtain ⟨⟨g0, g1, g2, g3, g4⟩, q0, q1, q2, q3, q4⟩ := hp1.facts
  have HF := Lib.hid hf
  have HP1 := Lib.hid hp1
  have hgn : g ≠ bt := by have := HT.out; omega
  clear c0 c1 c2 hf hB1 hp hp1 hW1 hk f1
  have hS1 : ∀ w', Fr W1 w' (fun k => k = bt) → ((fun w' => (w'.cell? ⟨R, 0, none⟩ = some (.slice (some ⟨g, 0, none⟩) n c) ∧ w'.cell? ⟨R, 1, none⟩ = some (.int .i64 ((a : Int) + 1))) ∧ w'.cell? ⟨g, a * 5, none⟩ = some (.int .i64 (t1 : Nat)) ∧ w'.cell? ⟨g, a * 5 + 1, none⟩ = some (.string t2) ∧ w'.cell? ⟨g, a * 5 + 2, none⟩ = some (.bool false) ∧ w'.cell? ⟨g, a * 5 + 3, none⟩ = some (.slice B t3.length d) ∧ w'.cell? ⟨g, a * 5 + 4, none⟩ = some (.int .i64 (t4 : Nat)))) w' := fun w' h => ⟨⟨h.cell c0' hne, h.cell c1' hne⟩, h.cell e0 hgn, h.cell e1 hgn, h.cell e2 hgn, h.cell e3 hgn, h.cell e4 hgn⟩
  have hfd : Fr W1 W1.drew (fun k => k = bt) := Fr.of_below (Below.refl _ _).drew
  refine wp_region_held_drew (S := fun w' => (w'.cell? ⟨R, 0, none⟩ = some (.slice (some ⟨g, 0, none⟩) n c) ∧ w'.cell? ⟨R, 1, none⟩ = some (.int .i64 ((a : Int) + 1))) ∧ w'.cell? ⟨g, a * 5, none⟩ = some (.int .i64 (t1 : Nat)) ∧ w'.cell? ⟨g, a * 5 + 1, none⟩ = some (.string t2) ∧ w'.cell? ⟨g, a * 5 + 2, none⟩ = some (.bool false) ∧ w'.cell? ⟨g, a * 5 + 3, none⟩ = some (.slice B t3.length d) ∧ w'.cell? ⟨g, a * 5 + 4, none⟩ = some (.int .i64 (t4 : Nat))) (by kernel_rfl) (hS1 _ hfd) (fun hHeld => ?_)
  refine take_at 0 (by kernel_rfl) (by kernel_rfl) (by kernel_rfl) (fun _ _ d _ _ h => by cases d <;> exact h) ⟨_, rfl⟩ (by assumption) (fun o ho => ?_)
  simp only [zg1, zg3, zg4] at ho
  subst ho
  refine ⟨?_, ⟨by rfl, ?_⟩, ?_⟩
  rotate_left
  · intro w hSw
    (try dsimp only at hSw)
    (go_simp; try with_reducible rfl)
  (try simp only [Act.put, zs1, zs2, zs3])
  refine take_at 1 (by kernel_rfl) (by kernel_rfl) (by kernel_rfl) (fun _ _ d _ _ h => by cases d <;> exact h) ⟨_, rfl⟩ (by assumption) (fun o ho => ?_)
  simp only [zg1, zg2, zg3, zg4] at ho
  subst ho
  refine ⟨?_, ⟨by rfl, ?_⟩, ?_⟩
  rotate_left
  · intro w hSw
    (try dsimp only at hSw)
    (go_simp; try with_reducible rfl)
  (try simp only [Act.put, zs1, zs2, zs3])
  refine take_at 2 (by kernel_rfl) (by kernel_rfl) (by kernel_rfl) (fun _ _ d _ _ h => by cases d <;> exact h) ⟨_, rfl⟩ (by assumption) (fun o ho => ?_)
  simp only [zg1, zg2, zg3, zg4] at ho
  subst ho
  refine ⟨?_, ⟨by rfl, ?_⟩, ?_⟩
  rotate_left
  · intro w hSw
    (try dsimp only at hSw)
    (go_simp; try with_reducible rfl)
  (try simp only [Act.put, zs1, zs2, zs3])
  refine take_at 3 (by kernel_rfl) (by kernel_rfl) (by kernel_rfl) (fun _ _ d _ _ h => by cases d <;> exact h) ⟨_, rfl⟩ (by assumption) (fun o ho => ?_)
  simp only [zg1, zg2, zg3, zg4] at ho
  subst ho
  refine ⟨?_, ⟨by rfl, ?_⟩, ?_⟩
  rotate_left
  · intro w hSw
    (try dsimp only at hSw)
    (go_simp; try with_reducible rfl)
  (try simp only [Act.put, zs1, zs2, zs3])
  refine take_at 4 (by kernel_rfl) (by kernel_rfl) (by kernel_rfl) (fun _ _ d _ _ h => by cases d <;> exact h) ⟨_, rfl⟩ (by assumption) (fun o ho => ?_)
  simp only [zg1, zg2, zg3, zg4] at ho
  subst ho
  refine ⟨?_, ⟨by rfl, ?_⟩, ?_⟩
  rotate_left
  · intro w hSw
    (try dsimp only at hSw)
    (go_simp; try with_reducible rfl)
  (try simp only [Act.put, zs1, zs2, zs3])
  refine take_at 5 (by kernel_rfl) (by kernel_rfl) (by kernel_rfl) (fun _ _ d _ _ h => by cases d <;> exact h) ⟨_, rfl⟩ (by assumption) (fun o ho => ?_)
  simp only [zg1, zg2, zg3, zg4] at ho
  subst ho
  refine ⟨?_, ⟨by rfl, ?_⟩, ?_⟩
  rotate_left
  · intro w hSw
    (try dsimp only at hSw)
    (go_simp; try with_reducible rfl)
  (try simp only [Act.put, zs1, zs2, zs3])
  refine take_at 6 (by kernel_rfl) (by kernel_rfl) (by kernel_rfl) (fun _ _ d _ _ h => by cases d <;> exact h) ⟨_, rfl⟩ (by assumption) (fun o ho => ?_)
  simp only [zg1, zg2, zg3, zg4] at ho
  subst ho
  refine ⟨?_, ⟨by rfl, ?_⟩, ?_⟩
  rotate_left
  · intro w hSw
    (try dsimp only at hSw)
    (go_simp; try with_reducible rfl)
  (try simp only [Act.put, zs1, zs2, zs3])
  refine take_at 7 (by kernel_rfl) (by kernel_rfl) (by kernel_rfl) (fun _ _ d _ _ h => by cases d <;> exact h) ⟨_, rfl⟩ (by assumption) (fun o ho => ?_)
  simp only [zg1, zg2, zg3, zg4] at ho
  subst ho
  refine ⟨?_, ⟨by rfl, ?_⟩, ?_⟩
  rotate_left
  · intro w hSw
    (try dsimp only at hSw)
    (go_simp; try with_reducible rfl)
  (try simp only [Act.put, zs1, zs2, zs3])
  refine take_at 8 (by kernel_rfl) (by kernel_rfl) (by kernel_rfl) (fun _ _ d _ _ h => by cases d <;> exact h) ⟨_, rfl⟩ (by assumption) (fun o ho => ?_)
  simp only [zg1, zg2, zg3, zg4] at ho
  subst ho
  refine ⟨?_, ⟨by rfl, ?_⟩, ?_⟩
  rotate_left
  · intro w hSw
    (try dsimp only at hSw)
    (go_simp; try with_reducible rfl)
  (try simp only [Act.put, zs1, zs2, zs3])
  refine take_at 9 (by kernel_rfl) (by kernel_rfl) (by kernel_rfl) (fun _ _ d _ _ h => by cases d <;> exact h) ⟨_, rfl⟩ (by assumption) (fun o ho => ?_)
  simp only [zg1, zg2, zg3, zg4] at ho
  subst ho
  refine ⟨?_, ⟨by rfl, ?_⟩, ?_⟩
  rotate_left
  · intro w hSw
    (try dsimp only at hSw)
    (go_simp; try with_reducible rfl)
  (try simp only [Act.put, zs1, zs2, zs3])
  refine take_at 10 (by kernel_rfl) (by kernel_rfl) (by kernel_rfl) (fun _ _ d _ _ h => by cases d <;> exact h) ⟨_, rfl⟩ (by assumption) (fun o ho => ?_)
  simp only [zg1, zg2, zg3, zg4] at ho
  subst ho
  refine ⟨?_, ⟨by rfl, ?_⟩, ?_⟩
  rotate_left
  · intro w hSw
    (try dsimp only at hSw)
    (go_simp; try with_reducible rfl)
  (try simp only [Act.put, zs1, zs2, zs3])
  refine wpAnyH_ready (rs := [11]) (by kernel_rfl) (by simp) ?_
  refine ready_at 11 ⟨_, rfl⟩ (fun o ho K hK => ?_) AllReadyH.nil
  simp only [zg1, zg2, zg3, zg4] at ho
  subst ho
  go_simp
  refine hK.out _ _ (hS1 _ (hfd.step (fr5 _ _ _ _ _ _ _) (fun _ h => .inl h))) (fun hHeld2 => ?_)
  refine wpAnyH_done (by kernel_rfl) ?_ _
  (try dsimp only)
  go_wp2_with fail
  exact bodyPost_ret (results_next rfl _ _ _ _ _ _ _ _ _ rfl (HP1.out.set5 _ _ _ _ _).drew) rfl (next_end HP0.out HL0.out HBW.out HF.out HP2.out hne HT.out)
end
end
section
open Go.RowKit
abbrev N0 : Nat → Prop := fun _ => False
def NmE (E : Nat → Prop) (w : World) (lo hi : Nat) (A : Option Addr) (c : Nat) (ns : List ByteArray) : Prop :=
 StrL w (fun b => lo ≤ b ∧ b < hi ∧ ¬ E b) A c ns ∧ c ≤ maxLen ∧ ((A = none ∧ c = 0) ∨ ∃ g cs, A = some ⟨g, 0, none⟩ ∧ (lo ≤ g ∧ g < hi ∧ ¬ E g) ∧ w.heap[g]? = some (.cells cs 9 (0, 0)) ∧ c ≤ cs.size)
abbrev NmR := NmE N0
theorem NmE.nil (E : Nat → Prop) (w : World) (lo hi : Nat) : NmE E w lo hi none 0 [] := ⟨⟨Nat.le_refl _, fun h => absurd h (by simp)⟩, Nat.zero_le _, .inl ⟨rfl, rfl⟩⟩
theorem Lm.nil (w : World) (R0 : Nat → Prop) : Lm w R0 none 0 [] := ⟨⟨Sl.nil _ _ _, fun h => absurd h (by simp)⟩, Nat.zero_le _, .inl ⟨rfl, rfl⟩⟩
theorem NmE.up {E E' : Nat → Prop} {w w' : World} {lo hi lo' hi' : Nat} {A : Option Addr} {c : Nat} {ns : List ByteArray} (h : NmE E w lo hi A c ns) (h1 : lo' ≤ lo) (h2 : hi ≤ hi') (e : ∀ b, lo ≤ b → b < hi → ¬ E b → w'.heap[b]? = w.heap[b]?) (hE : ∀ b, lo ≤ b → b < hi → E' b → E b) : NmE E' w' lo' hi' A c ns := by
 have hb : ∀ b, (lo ≤ b ∧ b < hi ∧ ¬ E b) → (lo' ≤ b ∧ b < hi' ∧ ¬ E' b) := fun b hb => ⟨by have := hb.1; omega, by have := hb.2.1; omega, fun h => hb.2.2 (hE b hb.1 hb.2.1 h)⟩
 refine ⟨h.1.keep (fun p v hp hc => (World.cell?_of_block (a := p) (e _ hp.1 hp.2.1 hp.2.2)).trans hc) hb, h.2.1, ?_⟩
 rcases h.2.2 with h | ⟨g, cs, hA, h3, h5, h6⟩
 · exact .inl h
 · exact .inr ⟨g, cs, hA, hb g h3, (e g h3.1 h3.2.1 h3.2.2).trans h5, h6⟩
mutual
def T.GotE (w : World) (R0 E : Nat → Prop) : T → Nat → Nat → Kc → Prop
 | .node k nm ns ng mg ks, lo, hi, v => ∃ A1 c1 A2 c2 A3 c3, v = tc k nm A1 ns.length c1 ng A2 mg.length c2 A3 ks.length c3 ∧ lo ≤ hi ∧ NmE E w lo hi A1 c1 ns ∧ Lm w R0 A2 c2 mg ∧
  ((A3 = Option.none ∧ c3 = 0 ∧ ks = []) ∨ ∃ g rs, A3 = some ⟨g, 0, Option.none⟩ ∧ (lo ≤ g ∧ g < hi ∧ ¬ E g) ∧ KRow w g ks.length c3 rs ∧ T.GotEs w R0 E ks g lo hi rs)
def T.GotEs (w : World) (R0 E : Nat → Prop) : List T → Nat → Nat → Nat → List Kc → Prop
 | [], _, lo, hi, rs => rs = [] ∧ lo ≤ hi
 | t :: r, g, lo, hi, rs => ∃ c q a mid, rs = c :: q ∧ lo ≤ a ∧ a ≤ mid ∧ (g < a ∨ mid ≤ g) ∧ T.GotE w R0 E t a mid c ∧ T.GotEs w R0 E r g mid hi q
end
section
variable {w w' : World} {R0 E E' : Nat → Prop}
theorem T.GotE.le {t : T} {lo hi : Nat} {v : Kc} (h : T.GotE w R0 E t lo hi v) : lo ≤ hi := by
 cases t
 simp only [T.GotE] at h
 obtain ⟨A1, c1, A2, c2, A3, c3, _, h1, _⟩ := h
 exact h1
theorem T.GotEs.le : ∀ (ks : List T) (g lo hi : Nat) (rs : List Kc), T.GotEs w R0 E ks g lo hi rs → lo ≤ hi
 | [], _, _, _, _, h => by simp only [T.GotEs] at h; exact h.2
 | t :: r, g, lo, hi, rs, h => by
  simp only [T.GotEs] at h
  obtain ⟨c, q, a, mid, _, h1, h2, _, _, h3⟩ := h
  have := T.GotEs.le r g mid hi q h3
  omega
theorem T.GotEs.len : ∀ (ks : List T) (g lo hi : Nat) (rs : List Kc), T.GotEs w R0 E ks g lo hi rs → rs.length = ks.length
 | [], _, _, _, _, h => by simp only [T.GotEs] at h; rw [h.1]; rfl
 | t :: r, g, lo, hi, rs, h => by
  simp only [T.GotEs] at h
  obtain ⟨c, q, a, mid, rfl, h1, h2, _, _, h3⟩ := h
  simp [T.GotEs.len r g mid hi q h3]
theorem T.GotE.form {t : T} {lo hi : Nat} {v : Kc} (h : T.GotE w R0 E t lo hi v) : ∃ A1 c1 A2 c2 A3 c3, v = tc t.k t.nm A1 t.ns.length c1 t.ng A2 t.mg.length c2 A3 t.ks.length c3 := by
 cases t
 simp only [T.GotE] at h
 obtain ⟨A1, c1, A2, c2, A3, c3, e, _⟩ := h
 exact ⟨A1, c1, A2, c2, A3, c3, e⟩
mutual
theorem T.GotE.keep (hk0 : Kp R0 w w') : ∀ (t : T) (lo hi : Nat) (v : Kc), T.GotE w R0 E t lo hi v → (∀ b, lo ≤ b → b < hi → ¬ E b → w'.heap[b]? = w.heap[b]?) → (∀ b, lo ≤ b → b < hi → E' b → E b) → T.GotE w' R0 E' t lo hi v
 | .node k nm ns ng mg ks, lo, hi, v, h, e, hE => by
  simp only [T.GotE] at h ⊢
  obtain ⟨A1, c1, A2, c2, A3, c3, hv, h1, hs, hm, hk⟩ := h
  refine ⟨A1, c1, A2, c2, A3, c3, hv, h1, hs.up (Nat.le_refl _) (Nat.le_refl _) e hE, hm.keep hk0, ?_⟩
  rcases hk with hk | ⟨g, rs, hA, hg, hrow, hn⟩
  · exact .inl hk
  · exact .inr ⟨g, rs, hA, ⟨hg.1, hg.2.1, fun h => hg.2.2 (hE g hg.1 hg.2.1 h)⟩, hrow.same (e g hg.1 hg.2.1 hg.2.2), T.GotEs.keep hk0 ks g lo hi rs hn (fun b hb1 hb2 _ => e b hb1 hb2) hE⟩
theorem T.GotEs.keep (hk0 : Kp R0 w w') : ∀ (ks : List T) (g lo hi : Nat) (rs : List Kc), T.GotEs w R0 E ks g lo hi rs → (∀ b, lo ≤ b → b < hi → b ≠ g → ¬ E b → w'.heap[b]? = w.heap[b]?) → (∀ b, lo ≤ b → b < hi → E' b → E b) → T.GotEs w' R0 E' ks g lo hi rs
 | [], _, _, _, _, h, _, _ => by simp only [T.GotEs] at h ⊢; exact h
 | t :: r, g, lo, hi, rs, h, e, hE => by
  simp only [T.GotEs] at h ⊢
  obtain ⟨c, q, a, mid, hrs, h1, h2, hg, ht, hr⟩ := h
  have hle := T.GotEs.le r g mid hi q hr
  exact ⟨c, q, a, mid, hrs, h1, h2, hg, T.GotE.keep hk0 t a mid c ht (fun b hb1 hb2 => e b (by omega) (by omega) (by omega)) (fun b hb1 hb2 => hE b (by omega) (by omega)), T.GotEs.keep hk0 r g mid hi q hr (fun b hb1 hb2 hb3 => e b (by omega) hb2 hb3) (fun b hb1 hb2 => hE b (by omega) hb2)⟩
end
theorem T.GotEs.hi : ∀ (ks : List T) (g lo hi hi' : Nat) (rs : List Kc), T.GotEs w R0 E ks g lo hi rs → hi ≤ hi' → T.GotEs w R0 E ks g lo hi' rs
 | [], _, _, _, _, _, h, hh => by simp only [T.GotEs] at h ⊢; exact ⟨h.1, by omega⟩
 | t :: r, g, lo, hi, hi', rs, h, hh => by
  simp only [T.GotEs] at h ⊢
  obtain ⟨c, q, a, mid, hrs, h1, h2, hg, ht, hr⟩ := h
  exact ⟨c, q, a, mid, hrs, h1, h2, hg, ht, T.GotEs.hi r g mid hi hi' q hr hh⟩
theorem T.GotEs.lo : ∀ (ks : List T) (g lo lo' hi : Nat) (rs : List Kc), T.GotEs w R0 E ks g lo hi rs → lo' ≤ lo → T.GotEs w R0 E ks g lo' hi rs
 | [], _, _, _, _, _, h, hh => by simp only [T.GotEs] at h ⊢; exact ⟨h.1, by omega⟩
 | t :: r, g, lo, lo', hi, rs, h, hh => by
  simp only [T.GotEs] at h ⊢
  obtain ⟨c, q, a, mid, hrs, h1, h2, hg, ht, hr⟩ := h
  exact ⟨c, q, a, mid, hrs, by omega, h2, hg, ht, hr⟩
theorem T.GotEs.apart : ∀ (ks : List T) (g g' lo hi : Nat) (rs : List Kc), T.GotEs w R0 E ks g lo hi rs → hi ≤ g' → T.GotEs w R0 E ks g' lo hi rs
 | [], _, _, _, _, _, h, hh => by simp only [T.GotEs] at h ⊢; exact h
 | t :: r, g, g', lo, hi, rs, h, hh => by
  simp only [T.GotEs] at h ⊢
  obtain ⟨c, q, a, mid, hrs, h1, h2, hg, ht, hr⟩ := h
  have hle := T.GotEs.le r g mid hi q hr
  exact ⟨c, q, a, mid, hrs, h1, h2, .inr (by omega), ht, T.GotEs.apart r g g' mid hi q hr hh⟩
theorem T.GotEs.snoc : ∀ (ks : List T) (g lo mid hi : Nat) (rs : List Kc) (t : T) (c : Kc), T.GotEs w R0 E ks g lo mid rs → T.GotE w R0 E t mid hi c → (g < mid ∨ hi ≤ g) → T.GotEs w R0 E (ks ++ [t]) g lo hi (rs ++ [c])
 | [], g, lo, mid, hi, rs, t, c, h, ht, hg => by
  have := ht.le
  simp only [T.GotEs] at h
  simp only [T.GotEs, List.nil_append, h.1]
  exact ⟨c, [], mid, hi, rfl, h.2, this, hg, ht, rfl, Nat.le_refl _⟩
 | u :: r, g, lo, mid, hi, rs, t, c, h, ht, hg => by
  simp only [T.GotEs, List.cons_append] at h ⊢
  obtain ⟨d, q, a, m2, hrs, h1, h2, hg2, hu, hr⟩ := h
  exact ⟨d, q ++ [c], a, m2, by rw [hrs]; rfl, h1, h2, hg2, hu, T.GotEs.snoc r g m2 mid hi q t c hr ht hg⟩
theorem T.GotE.wide {t : T} {lo hi lo' hi' : Nat} {v : Kc} (h : T.GotE w R0 E t lo hi v) (h1 : lo' ≤ lo) (h2 : hi ≤ hi') : T.GotE w R0 E t lo' hi' v := by
 cases t with
 | node k nm ns ng mg ks =>
  simp only [T.GotE] at h ⊢
  obtain ⟨A1, c1, A2, c2, A3, c3, hv, hm1, hs, hm, hk⟩ := h
  refine ⟨A1, c1, A2, c2, A3, c3, hv, by omega, hs.up h1 h2 (fun _ _ _ _ => rfl) (fun _ _ _ h => h), hm, ?_⟩
  rcases hk with hk | ⟨g, rs, hA, ⟨hg1, hg2, hg3⟩, hrow, hn⟩
  · exact .inl hk
  · exact .inr ⟨g, rs, hA, ⟨by omega, by omega, hg3⟩, hrow, T.GotEs.lo ks g lo lo' hi' rs (T.GotEs.hi ks g lo hi hi' rs hn h2) h1⟩
theorem T.GotE.fr {x : Nat → Prop} {t : T} {lo hi : Nat} {v : Kc} (h : T.GotE w R0 E t lo hi v) (hf : Fr w w' x) (h0 : ∀ b, R0 b → ¬ x b) (hx : ∀ b, lo ≤ b → b < hi → ¬ E b → ¬ x b) (hh : hi ≤ w.heap.size) : T.GotE w' R0 E t lo hi v :=
 T.GotE.keep (.of_fr hf h0) t lo hi v h (fun b h1 h2 h3 => hf.block b (by omega) (hx b h1 h2 h3)) (fun _ _ _ h => h)
theorem T.GotE.lift {t : T} {lo hi : Nat} {v : Kc} (h : T.GotE w R0 E t lo hi v) (hE : ∀ b, lo ≤ b → b < hi → E' b → E b) : T.GotE w R0 E' t lo hi v :=
 T.GotE.keep (fun _ _ _ h => h) t lo hi v h (fun _ _ _ _ => rfl) hE
mutual
theorem T.GotE.In : ∀ (t : T) (lo hi : Nat) (v : Kc) (R : Nat → Prop), T.GotE w R0 E t lo hi v → (∀ b, R0 b → R b) → (∀ b, lo ≤ b → b < hi → R b) → T.In w R t (kv v)
 | .node k nm ns ng mg ks, lo, hi, v, R, h, h0, hR => by
  simp only [T.GotE] at h
  obtain ⟨A1, c1, A2, c2, A3, c3, rfl, h1, hs, hm, hk⟩ := h
  simp only [T.In]
  refine ⟨A1, c1, A2, c2, A3, c3, rfl, hs.1.keep (fun _ _ _ hc => hc) (fun b hb => hR b hb.1 hb.2.1), hm.1.keep (fun _ _ _ hc => hc) h0, ?_, fun hn => ?_⟩
  · rcases hk with ⟨_, _, rfl⟩ | ⟨g, rs, _, _, ⟨_, _, h3, _⟩, _⟩
    · exact Nat.zero_le _
    · exact h3
  · rcases hk with ⟨_, _, rfl⟩ | ⟨g, rs, hA, ⟨hg1, hg2, _⟩, hrow, hn2⟩
    · exact absurd hn (by simp)
    · have hl := T.GotEs.len ks g lo hi rs hn2
      have hcs := hrow.cells
      exact ⟨g, 0, hA, hR g hg1 hg2, T.GotEs.In ks g lo hi rs 0 R hn2 h0 hR (fun i hi' j hj => by rw [Nat.zero_add]; exact hcs i (by omega) j hj)⟩
theorem T.GotEs.In : ∀ (ks : List T) (g lo hi : Nat) (rs : List Kc) (o : Nat) (R : Nat → Prop), T.GotEs w R0 E ks g lo hi rs → (∀ b, R0 b → R b) → (∀ b, lo ≤ b → b < hi → R b) → (∀ i, i < rs.length → ∀ j, j < 6 → w.cell? ⟨g, o + (i * 6 + j), Option.none⟩ = (kcl (rs.getD i kc0))[j]?) → T.Ins w R g o ks
 | [], _, _, _, _, _, _, _, _, _, _ => by simp only [T.Ins]
 | t :: r, g, lo, hi, rs, o, R, h, h0, hR, hc => by
  simp only [T.GotEs] at h
  obtain ⟨c, q, a, mid, rfl, h1, h2, hg, ht, hr⟩ := h
  have hle := T.GotEs.le r g mid hi q hr
  simp only [T.Ins]
  refine ⟨⟨c.1, c.2.1, c.2.2.1, c.2.2.2.1, c.2.2.2.2.1, c.2.2.2.2.2, ?_, T.GotE.In t a mid c R ht h0 (fun b hb1 hb2 => hR b (by omega) (by omega))⟩, T.GotEs.In r g mid hi q (o + 6) R hr h0 (fun b hb1 hb2 => hR b (by omega) hb2) ?_⟩
  · have h0 := hc 0 (by simp)
    simp only [Nat.zero_mul, Nat.zero_add] at h0
    exact ⟨h0 0 (by omega), h0 1 (by omega), h0 2 (by omega), h0 3 (by omega), h0 4 (by omega), h0 5 (by omega)⟩
  · intro i hi' j hj
    have := hc (i + 1) (by simpa using hi') j hj
    rw [show o + 6 + (i * 6 + j) = o + ((i + 1) * 6 + j) by omega, this]
    simp [List.getD]
end
theorem Lm.r0 {R1 : Nat → Prop} {A : Option Addr} {c : Nat} {l : List Nat} (h : Lm w R0 A c l) (hr : ∀ b, R0 b → R1 b) : Lm w R1 A c l := by
 refine ⟨h.1.keep (fun _ _ _ h => h) hr, h.2.1, ?_⟩
 rcases h.2.2 with h | ⟨g, cs, h1, h2, h3⟩
 · exact .inl h
 · exact .inr ⟨g, cs, h1, hr g h2, h3⟩
mutual
theorem T.GotE.r0 {R1 : Nat → Prop} (hr : ∀ b, R0 b → R1 b) : ∀ (t : T) (lo hi : Nat) (v : Kc), T.GotE w R0 E t lo hi v → T.GotE w R1 E t lo hi v
 | .node k nm ns ng mg ks, lo, hi, v, h => by
  simp only [T.GotE] at h ⊢
  obtain ⟨A1, c1, A2, c2, A3, c3, hv, h1, hs, hm, hk⟩ := h
  refine ⟨A1, c1, A2, c2, A3, c3, hv, h1, hs, hm.r0 hr, ?_⟩
  rcases hk with hk | ⟨g, rs, hA, hg, hrow, hn⟩
  · exact .inl hk
  · exact .inr ⟨g, rs, hA, hg, hrow, T.GotEs.r0 hr ks g lo hi rs hn⟩
theorem T.GotEs.r0 {R1 : Nat → Prop} (hr : ∀ b, R0 b → R1 b) : ∀ (ks : List T) (g lo hi : Nat) (rs : List Kc), T.GotEs w R0 E ks g lo hi rs → T.GotEs w R1 E ks g lo hi rs
 | [], _, _, _, _, h => by simp only [T.GotEs] at h ⊢; exact h
 | t :: r, g, lo, hi, rs, h => by
  simp only [T.GotEs] at h ⊢
  obtain ⟨c, q, a, mid, hrs, h1, h2, hg, ht, hr'⟩ := h
  exact ⟨c, q, a, mid, hrs, h1, h2, hg, T.GotE.r0 hr t a mid c ht, T.GotEs.r0 hr r g mid hi q hr'⟩
end
theorem KRow.blk1 {g : Nat} {a : Kc} (h : Blk w g 28 #[a.1, a.2.1, a.2.2.1, a.2.2.2.1, a.2.2.2.2.1, a.2.2.2.2.2]) : KRow w g 1 1 [a] :=
 ⟨_, h, Nat.le_refl _, by decide, rfl, by simp [kcs, kcl, kzs, Builtin.zeroCells]⟩
theorem KRow.blk2 {g : Nat} {a b : Kc} (h : Blk w g 28 #[a.1, a.2.1, a.2.2.1, a.2.2.2.1, a.2.2.2.2.1, a.2.2.2.2.2, b.1, b.2.1, b.2.2.1, b.2.2.2.1, b.2.2.2.2.1, b.2.2.2.2.2]) : KRow w g 2 2 [a, b] :=
 ⟨_, h, Nat.le_refl _, by decide, rfl, by simp [kcs, kcl, kzs, Builtin.zeroCells]⟩
theorem T.GotE.one {k : Int} {nm : ByteArray} {ns : List ByteArray} {mg : List Nat} {u : T} {lo a hi g : Nat} {c : Kc} {A1 : Option Addr} {c1 : Nat} {A2 : Option Addr} {c2 : Nat} (hn : NmE E w lo a A1 c1 ns) (hm : Lm w R0 A2 c2 mg) (hu : T.GotE w R0 E u a g c) (hlo : lo ≤ a) (hg : g < hi) (hE : ¬ E g)
    (hb : Blk w g 28 #[c.1, c.2.1, c.2.2.1, c.2.2.2.1, c.2.2.2.2.1, c.2.2.2.2.2]) : T.GotE w R0 E (.node k nm ns false mg [u]) lo hi (tc k nm A1 ns.length c1 false A2 mg.length c2 (some ⟨g, 0, Option.none⟩) 1 1) := by
  have hle := hu.le
  simp only [T.GotE]
  refine ⟨A1, c1, A2, c2, _, _, rfl, by omega, hn.up (Nat.le_refl _) (by omega) (fun _ _ _ _ => rfl) (fun _ _ _ h => h), hm, .inr ⟨g, [c], rfl, ⟨by omega, hg, hE⟩, .blk1 hb, ?_⟩⟩
  simp only [T.GotEs]
  exact ⟨c, [], a, g, rfl, hlo, hle, .inr (Nat.le_refl _), hu, rfl, by omega⟩
theorem T.GotE.two {k : Int} {t u : T} {lo a m hi g : Nat} {b c : Kc} (ht : T.GotE w R0 E t lo a b) (hu : T.GotE w R0 E u m g c) (ham : a ≤ m) (hg : g < hi) (hE : ¬ E g)
    (hb : Blk w g 28 #[b.1, b.2.1, b.2.2.1, b.2.2.2.1, b.2.2.2.2.1, b.2.2.2.2.2, c.1, c.2.1, c.2.2.1, c.2.2.2.1, c.2.2.2.2.1, c.2.2.2.2.2]) : T.GotE w R0 E (P.nd k [t, u]) lo hi (tc k ⟨#[]⟩ Option.none 0 0 false Option.none 0 0 (some ⟨g, 0, Option.none⟩) 2 2) := by
  have h1 := ht.le
  have h2 := hu.le
  simp only [P.nd, T.GotE]
  refine ⟨Option.none, 0, Option.none, 0, _, _, rfl, by omega, NmE.nil _ _ _ _, Lm.nil _ _, .inr ⟨g, [b, c], rfl, ⟨by omega, hg, hE⟩, .blk2 hb, ?_⟩⟩
  simp only [T.GotEs]
  exact ⟨b, [c], lo, a, rfl, Nat.le_refl _, h1, .inr (by omega), ht, c, [], m, g, rfl, ham, h2, .inr (Nat.le_refl _), hu, rfl, by omega⟩
theorem T.GotE.leaf {k : Int} {nm : ByteArray} {mg : List Nat} {lo hi : Nat} {A2 : Option Addr} {c2 : Nat} (hm : Lm w R0 A2 c2 mg) (hh : lo ≤ hi) : T.GotE w R0 E (.node k nm [] false mg []) lo hi (tc k nm Option.none 0 0 false A2 mg.length c2 Option.none 0 0) := by
 simp only [T.GotE]
 exact ⟨Option.none, 0, A2, c2, Option.none, 0, rfl, hh, NmE.nil _ _ _ _, hm, .inl ⟨rfl, rfl, trivial⟩⟩
end
abbrev T.Got (w : World) (R0 : Nat → Prop) : T → Nat → Nat → Kc → Prop := T.GotE w R0 N0
end
section
open Go.RowKit
def Ans (w : World) (R : Nat) (R0 : Nat → Prop) (A : Option Addr) (c : Nat) (ws : List Wd) (e : Nat) : P.Rd → Ending → World → Prop
 | .out, _, _ => False
 | .bad cd p, ex, w' => ex = .panicked [stopV cd p] ∧ Fr w w' (fun k => k = R)
 | .ok t r, ex, w' => ∃ v a', ex = .returned (kv v) ∧ r = ws.drop a' ∧ Pa w' R R0 A c ws e a' ∧ T.Got w' R0 t w.heap.size w'.heap.size v ∧ Fr w w' (fun k => k = R)
def Rule (R0 : Nat → Prop) (A : Option Addr) (c : Nat) (ws : List Wd) (e f : Nat) (nt : P.NT) (fn : Nat) : Prop :=
 ∀ (w : World) (R a : Nat), Pa w R R0 A c ws e a → (∀ b, R0 b → b < w.heap.size) → P.G e f nt (ws.drop a) ≠ .out → Calls Tryz.prog fn #[.pointer (some ⟨R, 0, none⟩)] w (Ans w R R0 A c ws e (P.G e f nt (ws.drop a)))
section
variable {w w' W W3 W4 : World} {R : Nat} {R0 : Nat → Prop} {A : Option Addr} {c e a a' : Nat} {ws : List Wd}
theorem Rule.ok {f fn : Nat} {nt : P.NT} {t : T} {r : List Wd} (h : Rule R0 A c ws e f nt fn) (hp : Pa w R R0 A c ws e a) (h0 : ∀ b, R0 b → b < w.heap.size) (hX : P.G e f nt (ws.drop a) = .ok t r) :
    Calls Tryz.prog fn #[.pointer (some ⟨R, 0, none⟩)] w fun ex w' => ∃ v a', ex = .returned (kv v) ∧ r = ws.drop a' ∧ Pa w' R R0 A c ws e a' ∧ T.Got w' R0 t w.heap.size w'.heap.size v ∧ Fr w w' (fun k => k = R) := by
  have := h w R a hp h0 (by rw [hX]; intro h; cases h)
  rw [hX] at this
  exact this
theorem Rule.bad {f fn : Nat} {nt : P.NT} {cd p : Nat} (h : Rule R0 A c ws e f nt fn) (hp : Pa w R R0 A c ws e a) (h0 : ∀ b, R0 b → b < w.heap.size) (hX : P.G e f nt (ws.drop a) = .bad cd p) :
    Calls Tryz.prog fn #[.pointer (some ⟨R, 0, none⟩)] w fun ex w' => ex = .panicked [stopV cd p] ∧ Fr w w' (fun k => k = R) := by
  have := h w R a hp h0 (by rw [hX]; intro h; cases h)
  rw [hX] at this
  exact this
theorem Blk.open6 {b : Nat} {t : TypeId} {a0 a1 a2 a3 a4 a5 : Value} (h : Blk w b t #[a0, a1, a2, a3, a4, a5]) :
    (w.frozen? ⟨b, 0, none⟩ = false ∧ w.frozen? ⟨b, 1, none⟩ = false ∧ w.frozen? ⟨b, 2, none⟩ = false ∧ w.frozen? ⟨b, 3, none⟩ = false ∧ w.frozen? ⟨b, 4, none⟩ = false ∧ w.frozen? ⟨b, 5, none⟩ = false) ∧
    w.cell? ⟨b, 0, none⟩ = some a0 ∧ w.cell? ⟨b, 1, none⟩ = some a1 ∧ w.cell? ⟨b, 2, none⟩ = some a2 ∧ w.cell? ⟨b, 3, none⟩ = some a3 ∧ w.cell? ⟨b, 4, none⟩ = some a4 ∧ w.cell? ⟨b, 5, none⟩ = some a5 :=
  ⟨⟨h.free 0, h.free 1, h.free 2, h.free 3, h.free 4, h.free 5⟩, h.six⟩
theorem Blk.set6 {b : Nat} {t : TypeId} {a0 a1 a2 a3 a4 a5 : Value} (h : Blk w b t #[a0, a1, a2, a3, a4, a5]) (u0 u1 u2 u3 u4 u5 : Value) :
    Blk ((((((w.setCell ⟨b, 0, none⟩ u0).setCell ⟨b, 1, none⟩ u1).setCell ⟨b, 2, none⟩ u2).setCell ⟨b, 3, none⟩ u3).setCell ⟨b, 4, none⟩ u4).setCell ⟨b, 5, none⟩ u5) b t #[u0, u1, u2, u3, u4, u5] :=
  (((((h.put 0 u0).put 1 u1).put 2 u2).put 3 u3).put 4 u4).put 5 u5
theorem fr6 (w : World) (b : Nat) (u0 u1 u2 u3 u4 u5 : Value) : Fr w ((((((w.setCell ⟨b, 0, none⟩ u0).setCell ⟨b, 1, none⟩ u1).setCell ⟨b, 2, none⟩ u2).setCell ⟨b, 3, none⟩ u3).setCell ⟨b, 4, none⟩ u4).setCell ⟨b, 5, none⟩ u5) (fun k => k = b) :=
 (fr5 w b u0 u1 u2 u3 u4).set (b := b) (.inl rfl) 5 u5
theorem ans_ok {E : Nat → Prop} {t : T} {lo b : Nat} {v : Kc} (hb : w.heap.size ≤ b) (hlo : w.heap.size ≤ lo) (hbl : b < lo ∨ E b) (hw : Fr w W3 (fun k => k = R)) (hp : Pa W3 R R0 A c ws e a') (hg : T.GotE W3 R0 E t lo W3.heap.size v) (h4 : Fr W3 W4 (fun k => k = b)) (h0 : ∀ b, R0 b → b < w.heap.size) (hR : R < w.heap.size) :
    Ans w R R0 A c ws e (.ok t (ws.drop a')) (.returned (kv v)) W4 := by
  have hp4 : Blk W4 R 66 #[.slice A ws.length c, .int .i64 (a' : Nat), .int .i64 (e : Nat)] := h4.blk hp.1 (by show ¬ R = b; omega)
  have hf := hw.step h4 (fun k hk => .inr (by have : k = b := hk; omega))
  refine ⟨v, a', rfl, rfl, ⟨hp4, hp.2.1, hp.2.2.1.keep (.of_fr h4 (fun k hk e => by have := h0 k hk; have : k = b := e; omega)), hp.2.2.2⟩, ?_, hf⟩
  refine ((hg.fr h4 (fun k hk e => by have := h0 k hk; have : k = b := e; omega) (fun k h1 _ h3 e => ?_) (Nat.le_refl _)).lift (E' := N0) (fun _ _ _ h => h.elim)).wide hlo h4.size
  have e : k = b := e
  rcases hbl with h | h
  · omega
  · exact h3 (e ▸ h)
theorem results_tr {fn : Func} {p : Tmp} (h : fn.results = #[.cell p 28]) (tmps : Array Value) (w : World) (g : Nat) (a0 a1 a2 a3 a4 a5 : Value)
    (hp : tmps.getD p undef = .pointer (some ⟨g, 0, none⟩)) (hg : Blk w g 28 #[a0, a1, a2, a3, a4, a5]) :
    (results fn tmps).run Tryz.prog w = .ok (.agg #[a0, a1, a2, a3, a4, a5]) w :=
  results_cell_row h tmps w g _ _ _ _ hp hg Tryz.underlying28 rfl sizeTree
theorem tail_drop (ws : List Wd) (a : Nat) : (ws.drop a).tail = ws.drop (a + 1) := by rw [List.tail_drop]
abbrev tz : Array Value := #[.int .i64 0, .string ⟨#[]⟩, .slice none 0 0, .bool false, .slice none 0 0, .slice none 0 0]
theorem Fr.lt {x : Nat → Prop} (h : Fr w w' x) (h0 : ∀ b, R0 b → b < w.heap.size) : ∀ b, R0 b → b < w'.heap.size := fun b hb => Nat.lt_of_lt_of_le (h0 b hb) h.size
abbrev row1 (d : Kc) : Obj := .cells #[d.1, d.2.1, d.2.2.1, d.2.2.2.1, d.2.2.2.2.1, d.2.2.2.2.2] 28
abbrev row2 (b d : Kc) : Obj := .cells #[b.1, b.2.1, b.2.2.1, b.2.2.2.1, b.2.2.2.2.1, b.2.2.2.2.2, d.1, d.2.1, d.2.2.1, d.2.2.2.1, d.2.2.2.2.1, d.2.2.2.2.2] 28
theorem T.GotE.later {E : Nat → Prop} {t : T} {lo hi : Nat} {v : Kc} (h : T.GotE w R0 E t lo hi v) (hb : Below w.heap.size w w') (hh : hi ≤ w.heap.size) : T.GotE w' R0 E t lo hi v :=
 T.GotE.keep (.of_below hb) t lo hi v h (fun b _ h2 _ => hb.block b (by omega)) (fun _ _ _ h => h)
theorem ans_sub {w1 : World} {t : T} {b : Nat} {v : Kc} (hb : w.heap.size ≤ b) (hbl : b < w1.heap.size) (hw : Fr w W3 (fun k => k = R)) (hp : Pa W3 R R0 A c ws e a') (hg : T.Got W3 R0 t w1.heap.size W3.heap.size v) (h4 : Fr W3 W4 (fun k => k = b)) (h0 : ∀ b, R0 b → b < w.heap.size) (hR : R < w.heap.size) :
    Ans w R R0 A c ws e (.ok t (ws.drop a')) (.returned (kv v)) W4 := ans_ok hb (by omega) (.inl hbl) hw hp hg h4 h0 hR
theorem ans_one {w2 : World} {k : Int} {nm : ByteArray} {ns : List ByteArray} {mg : List Nat} {u : T} {d : Kc} {b lo q : Nat} {A1 : Option Addr} {c1 : Nat} {A2 : Option Addr} {c2 : Nat} (hb : w.heap.size ≤ b) (hbl : b < lo) (hlo : lo ≤ q)
    (hw : Fr w w2 (fun k => k = R)) (hp : Pa w2 R R0 A c ws e a') (hg : T.Got w2 R0 u q w2.heap.size d) (hn : NmR w2 lo q A1 c1 ns) (hm : Lm w2 R0 A2 c2 mg) (h4 : Fr (w2.alloc (row1 d)) W4 (fun k => k = b)) (h0 : ∀ b, R0 b → b < w.heap.size) (hR : R < w.heap.size) :
    Ans w R R0 A c ws e (.ok (.node k nm ns false mg [u]) (ws.drop a')) (.returned (kv (tc k nm A1 ns.length c1 false A2 mg.length c2 (some ⟨w2.heap.size, 0, none⟩) 1 1))) W4 := by
  have hal := below_alloc1 w2 (row1 d)
  have hsz : (w2.alloc (row1 d)).heap.size = w2.heap.size + 1 := by simp
  have hq := hg.le
  refine ans_ok (E := N0) (lo := lo) hb (by omega) (.inl hbl) (hw.below hal) (hp.below hal) ?_ h4 h0 hR
  exact T.GotE.one (a := q) (g := w2.heap.size) (hn.up (Nat.le_refl _) (Nat.le_refl _) (fun b _ h2 _ => hal.block b (by omega)) (fun _ _ _ h => h)) (hm.keep (.of_below hal)) (hg.later hal (Nat.le_refl _)) hlo (by omega) id (Blk.new _ _ _)
theorem got_two {E : Nat → Prop} {w2 : World} {k : Int} {t u : T} {d1 d2 : Kc} {lo m q : Nat} (ht : T.GotE w2 R0 E t lo m d1) (hmq : m ≤ q) (hg : T.GotE w2 R0 E u q w2.heap.size d2) (hE : ¬ E w2.heap.size) :
    T.GotE (w2.alloc (row2 d1 d2)) R0 E (P.nd k [t, u]) lo (w2.alloc (row2 d1 d2)).heap.size (tc k ⟨#[]⟩ none 0 0 false none 0 0 (some ⟨w2.heap.size, 0, none⟩) 2 2) := by
  have hal := below_alloc1 w2 (row2 d1 d2)
  have hsz : (w2.alloc (row2 d1 d2)).heap.size = w2.heap.size + 1 := by simp
  have hq := hg.le
  have hq' := ht.le
  exact T.GotE.two (a := m) (m := q) (g := w2.heap.size) (ht.later hal (by omega)) (hg.later hal (Nat.le_refl _)) hmq (by omega) hE (Blk.new _ _ _)
theorem ans_two {E : Nat → Prop} {w2 : World} {k : Int} {t u : T} {d1 d2 : Kc} {b lo m q : Nat} (hb : w.heap.size ≤ b) (hlo : w.heap.size ≤ lo) (hbl : b < lo ∨ E b) (ht : T.GotE w2 R0 E t lo m d1) (hmq : m ≤ q)
    (hw : Fr w w2 (fun k => k = R)) (hp : Pa w2 R R0 A c ws e a') (hg : T.GotE w2 R0 E u q w2.heap.size d2) (hE : ¬ E w2.heap.size) (h4 : Fr (w2.alloc (row2 d1 d2)) W4 (fun k => k = b)) (h0 : ∀ b, R0 b → b < w.heap.size) (hR : R < w.heap.size) :
    Ans w R R0 A c ws e (.ok (P.nd k [t, u]) (ws.drop a')) (.returned (kv (tc k ⟨#[]⟩ none 0 0 false none 0 0 (some ⟨w2.heap.size, 0, none⟩) 2 2))) W4 := by
  have hal := below_alloc1 w2 (row2 d1 d2)
  exact ans_ok (lo := lo) hb hlo hbl (hw.below hal) (hp.below hal) (got_two ht hmq hg hE) h4 h0 hR
theorem ans_leaf {w2 : World} {k : Int} {nm : ByteArray} {mg : List Nat} {b : Nat} {A2 : Option Addr} {c2 : Nat} (hb : w.heap.size ≤ b) (hbl : b < w2.heap.size) (hw : Fr w w2 (fun k => k = R)) (hp : Pa w2 R R0 A c ws e a') (hm : Lm w2 R0 A2 c2 mg) (h4 : Fr w2 W4 (fun k => k = b)) (h0 : ∀ b, R0 b → b < w.heap.size) (hR : R < w.heap.size) :
    Ans w R R0 A c ws e (.ok (.node k nm [] false mg []) (ws.drop a')) (.returned (kv (tc k nm none 0 0 false A2 mg.length c2 none 0 0))) W4 :=
  ans_ok (E := N0) (lo := w2.heap.size) hb (by omega) (.inl hbl) hw hp (T.GotE.leaf hm (Nat.le_refl _)) h4 h0 hR
theorem P.tx_drop (ws : List Wd) (i : Nat) (h : i < ws.length) : P.tx (ws.drop i) = (ws.getD i wd0).2.1 := by
 rw [List.drop_eq_getElem_cons h]
 simp [P.tx, h, List.getD]
theorem P.mg_drop (ws : List Wd) (i : Nat) (h : i < ws.length) : P.mg (ws.drop i) = (ws.getD i wd0).2.2.1 := by
 rw [List.drop_eq_getElem_cons h]
 simp [P.mg, h, List.getD]
theorem P.pl_drop (ws : List Wd) (i : Nat) (h : i < ws.length) : P.pl (ws.drop i) = (ws.getD i wd0).2.2.2 := by
 rw [List.drop_eq_getElem_cons h]
 simp [P.pl, h, List.getD]
theorem kd_lt {ws : List Wd} {i k : Nat} (h : P.kd (ws.drop i) = k) (hk : k ≠ 0) : i < ws.length := by
 obtain ⟨t, r, hl, _⟩ := P.kd_cons h hk
 have := congrArg List.length hl
 simp at this
 omega
theorem run_field1 (a0 a2 a3 a4 : Value) (s : ByteArray) (w : World) : (Instr.field 98 (.agg #[a0, .string s, a2, a3, a4]) 1).run Tryz.prog w = .ok (.string s) w := by kernel_rfl
theorem run_field2 (a0 a1 a2 a3 a4 : Value) (w : World) : (Instr.field 98 (.agg #[a0, a1, a2, a3, a4]) 2).run Tryz.prog w = .ok (.agg #[a2, a3]) w := by kernel_rfl
theorem Pa.inc (h : Pa w R R0 A c ws e a) (hlt : a < ws.length) : Pa (w.setCell ⟨R, 1, none⟩ (.int .i64 ((a : Int) + 1))) R R0 A c ws e (a + 1) ∧ Fr w (w.setCell ⟨R, 1, none⟩ (.int .i64 ((a : Int) + 1))) (fun k => k = R) := by
 have hf : Fr w (w.setCell ⟨R, 1, none⟩ (.int .i64 ((a : Int) + 1))) (fun k => k = R) := (Fr.refl w (fun k => k = R)).set (b := R) (.inl rfl) 1 (.int .i64 ((a : Int) + 1))
 exact ⟨h.at hf (h.1.put 1 _) hlt, hf⟩
theorem isW_lt {s : ByteArray} {i : Nat} (h : P.isW s (ws.drop i) = true) : i < ws.length := by
 rw [P.isW_drop] at h
 simp at h
 exact h.1
abbrev k6 (v : Kc) : Array Value := #[v.1, v.2.1, v.2.2.1, v.2.2.2.1, v.2.2.2.2.1, v.2.2.2.2.2]
end
end
end Go.Proofs.YthiadenmljbdaaaGreatDoor

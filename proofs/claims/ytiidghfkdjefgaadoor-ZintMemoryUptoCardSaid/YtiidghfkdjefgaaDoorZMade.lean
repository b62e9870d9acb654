/-
  zint.made, Norm, Neg, Abs: contracts.
-/
import Derived.Test.YtiidghfkdjefgaaDoorZTrim
import Derived.Laws.Rows
namespace Go.Proofs.YtiidghfkdjefgaaDoor
open Go.RowKit

/-- A block that holds two cells. -/
def Pair (w : World) (b : Nat) (t : TypeId) (v0 v1 : Value) : Prop := w.heap[b]? = some (.cells #[v0, v1] t (0, 0))
section
variable {w w' : World} {b : Nat} {t : TypeId} {v0 v1 : Value}
theorem Pair.lt (h : Pair w b t v0 v1) : b < w.heap.size := (Array.getElem?_eq_some_iff.1 h).1
theorem Pair.below (h : Pair w b t v0 v1) (hb : Below w.heap.size w w') : Pair w' b t v0 v1 := (hb.block b h.lt).trans h
theorem Pair.new (w : World) (t : TypeId) (v0 v1 : Value) : Pair (w.alloc (.cells #[v0, v1] t)) w.heap.size t v0 v1 := heap_alloc_new w _
theorem Pair.alloc (h : Pair w b t v0 v1) (o : Obj) : Pair (w.alloc o) b t v0 v1 := h.below ((Below.refl _ _).alloc (Nat.le_refl _) o)
theorem Pair.facts (h : Pair w b t v0 v1) : w.frozen? ⟨b, 0, none⟩ = false ∧ w.frozen? ⟨b, 1, none⟩ = false ∧ w.cell? ⟨b, 0, none⟩ = some v0 ∧ w.cell? ⟨b, 1, none⟩ = some v1 :=
  ⟨frozen_of_row _ _ _ _ _ h, frozen_of_row _ _ _ _ _ h, by rw [cell_of_row _ _ _ _ _ _ h]; rfl, by rw [cell_of_row _ _ _ _ _ _ h]; rfl⟩
theorem Pair.set (h : Pair w b t v0 v1) (u0 u1 : Value) : Pair ((w.setCell ⟨b, 0, none⟩ u0).setCell ⟨b, 1, none⟩ u1) b t u0 u1 :=
  heap_setCell_same _ _ 1 _ _ u1 (heap_setCell_same _ _ 0 _ _ u0 h)
end
theorem Sl.pair {w : World} {b : Nat} {t : TypeId} {p : Bool} {X : Option Addr} {y q : Nat} {A : Option Addr} {n c : Nat} {l : List Nat} (h : Sl w A n c l) (hp : Pair w b t (.bool p) (.slice X y q)) (u0 u1 : Value) :
    Sl ((w.setCell ⟨b, 0, none⟩ u0).setCell ⟨b, 1, none⟩ u1) A n c l :=
  ⟨h.len, h.cap, h.lim, fun hn => by
    obtain ⟨b', o, e, hc⟩ := h.cells hn
    refine ⟨b', o, e, fun k hk => ?_⟩
    have hck := hc k hk
    have hne : b' ≠ b := fun e => by
      subst e
      rw [cell_of_row _ _ _ _ _ _ hp] at hck
      rcases (show o + k = 0 ∨ o + k = 1 ∨ 2 ≤ o + k by omega) with h | h | h
      · rw [h] at hck; cases hck
      · rw [h] at hck; cases hck
      · rw [Array.getElem?_eq_none (by simpa using h)] at hck; cases hck
    rw [World.cell?_setCell_other _ _ _ _ (fun h => hne (by injection h with h; exact h.symm)), World.cell?_setCell_other _ _ _ _ (fun h => hne (by injection h with h; exact h.symm))]
    exact hck⟩
theorem Bag.pair {w : World} {b : Nat} {t : TypeId} {p : Bool} {X : Option Addr} {y q : Nat} {v : Value} {K x : Nat} (h : Bag w v K x) (hp : Pair w b t (.bool p) (.slice X y q)) (u0 u1 : Value) :
    Bag ((w.setCell ⟨b, 0, none⟩ u0).setCell ⟨b, 1, none⟩ u1) v K x := by
  obtain ⟨A, n, c, e, hP, hs, hn⟩ := h
  exact ⟨A, n, c, e, hP, hs.pair hp u0 u1, hn⟩
theorem below_pair {B b : Nat} {w w' : World} (h : Below B w w') (hb : B ≤ b) (u0 u1 : Value) : Below B w ((w'.setCell ⟨b, 0, none⟩ u0).setCell ⟨b, 1, none⟩ u1) := (h.setCell hb _).setCell hb _
theorem sizeInt : (Tryd.prog.info? 24).map (·.size) = some 2 := by kernel_rfl
/-- What a sign and a magnitude say. -/
def sgn (s : Bool) (x : Nat) : Int := if s then -(x : Int) else x
/-- v is a number as it should stand, of value z. -/
def ICan (w : World) (v : Value) (K : Nat) (z : Int) : Prop := ∃ sl, v = .agg #[.bool (decide (z < 0)), sl] ∧ Bag w sl K z.natAbs
/-- v is any number, of sign s and magnitude x. -/
def IVal (w : World) (v : Value) (K : Nat) (s : Bool) (x : Nat) : Prop := ∃ sl, v = .agg #[.bool s, sl] ∧ Mag w sl K x
section
variable {w w' : World} {v : Value} {K x : Nat} {s : Bool} {z : Int}
theorem IVal.below (h : IVal w v K s x) (hb : Below w.heap.size w w') : IVal w' v K s x := by
  obtain ⟨sl, e, hm⟩ := h
  exact ⟨sl, e, hm.below hb⟩
theorem ICan.below (h : ICan w v K z) (hb : Below w.heap.size w w') : ICan w' v K z := by
  obtain ⟨sl, e, hm⟩ := h
  exact ⟨sl, e, hm.below hb⟩
theorem ICan.val (h : ICan w v K z) : IVal w v K (decide (z < 0)) z.natAbs := by
  obtain ⟨sl, e, hm⟩ := h
  exact ⟨sl, e, hm.mag⟩
theorem sgn_abs (z : Int) : sgn (decide (z < 0)) z.natAbs = z := by
  unfold sgn
  by_cases h : z < 0
  · rw [decide_eq_true h]; simp only [if_true]; omega
  · rw [decide_eq_false h]; simp only [Bool.false_eq_true, if_false]; omega
theorem natAbs_sgn (s : Bool) (x : Nat) : (sgn s x).natAbs = x := by cases s <;> simp [sgn]
theorem sgn_neg (s : Bool) (x : Nat) : decide (sgn s x < 0) = (s && decide (0 < x)) := by
  cases s
  · simp [sgn]
  · simp [sgn]
end

/-- v is a number whose list lies in memory made since base. -/
def NwI (base : Nat) (w : World) (v : Value) : Prop := ∃ s sl, v = .agg #[.bool s, sl] ∧ NwS base w sl
theorem NwI.mk {base : Nat} {w : World} {s : Bool} {sl : Value} (h : NwS base w sl) : NwI base w (.agg #[.bool s, sl]) := ⟨s, sl, rfl, h⟩
theorem NwI.le {base base' : Nat} {w : World} {v : Value} (h : NwI base w v) (hb : base' ≤ base) : NwI base' w v := by
  obtain ⟨s, sl, e, h⟩ := h
  exact ⟨s, sl, e, h.le hb⟩
theorem NwI.below {base : Nat} {w w' : World} {v : Value} (h : NwI base w v) (hb : Below w.heap.size w w') : NwI base w' v := by
  obtain ⟨s, sl, e, h⟩ := h
  exact ⟨s, sl, e, h.below hb⟩
theorem NwI.pair {base : Nat} {w : World} {b : Nat} {t : TypeId} {p : Bool} {X : Option Addr} {y q : Nat} {v : Value} (h : NwI base w v) (hp : Pair w b t (.bool p) (.slice X y q)) (u0 u1 : Value) :
    NwI base ((w.setCell ⟨b, 0, none⟩ u0).setCell ⟨b, 1, none⟩ u1) v := by
  obtain ⟨s, sl, e, h⟩ := h
  refine ⟨s, sl, e, h.at fun g cs h1 h2 => ?_⟩
  have hne : g ≠ b := fun e => by
    subst e
    have e2 := h1.symm.trans hp
    injection e2 with e2
    injection e2 with e2
    subst e2
    obtain ⟨z, hz⟩ := h2 (.bool p) (by simp)
    cases hz
  rw [Below.heap_setCell _ ⟨b, 1, none⟩ _ g hne, Below.heap_setCell _ ⟨b, 0, none⟩ _ g hne]

/-- The lists of two numbers do not lie in one block. -/
def Sep (v u : Value) : Prop := ∀ s g n c s' g' n' c', v = .agg #[.bool s, .slice (some ⟨g, 0, none⟩) n c] → u = .agg #[.bool s', .slice (some ⟨g', 0, none⟩) n' c'] → g ≠ g'
theorem NwI.sep {b : Nat} {w w' : World} {v u : Value} (h : NwI b w v) (h' : NwI w.heap.size w' u) : Sep v u := by
  intro s g n c s' g' n' c' e e'
  obtain ⟨t, sl, e1, h⟩ := h
  obtain ⟨t', sl', e1', h'⟩ := h'
  rw [e] at e1
  rw [e'] at e1'
  injection e1 with e1; injection e1 with e1; injection e1 with _ e1; injection e1 with e1 _
  injection e1' with e1'; injection e1' with e1'; injection e1' with _ e1'; injection e1' with e1' _
  subst e1; subst e1'
  rcases h with h | ⟨a, _, _, _, ea, _, _, _, h4, _⟩
  · cases h
  rcases h' with h' | ⟨a', _, _, _, ea', h1', _⟩
  · cases h'
  injection ea with ea _ _; injection ea with ea; injection ea with ea _ _
  injection ea' with ea' _ _; injection ea' with ea'; injection ea' with ea' _ _
  have := (Array.getElem?_eq_some_iff.1 h4).1
  omega
theorem Sep.nil (s : Bool) (u : Value) : Sep (.agg #[.bool s, .slice none 0 0]) u := by
  intro s g n c s' g' n' c' e _
  injection e with e; injection e with e; injection e with _ e; injection e with e _
  cases e
set_option maxRecDepth 100000 in
set_option maxHeartbeats 800000 in
theorem made_n (w : World) (s : Bool) (m : Value) (K x : Nat) (hm : Mag w m K x) (hK : K ≤ 35184372088832) :
    Calls Tryd.prog 53 #[.bool s, m] w fun e w' => ∃ v, e = .returned v ∧ ICan w' v K (sgn s x) ∧ Below w.heap.size w w' ∧ NwI w.heap.size w' v := by
  obtain ⟨A, n, c, l, rfl, _, hs, rfl, hn⟩ := hm
  have hb0 : Below w.heap.size w (w.alloc (.cells #[Value.bool false, Value.slice none 0 0] 24)) := (Below.refl _ _).alloc (Nat.le_refl _) _
  have hp0 := Pair.new w 24 (.bool false) (.slice none 0 0)
  go_enter Tryd.func53, Tryd.ntmps53
  go_wp2_with fail
  refine (ztrim_any _ A n c l (hs.below hb0) (by omega)).mono ?_
  rintro e w1 ⟨v, rfl, ⟨B, k, d, rfl, hB, hs1, hk⟩, hb1, hn1⟩
  replace hn1 := hn1.le (base' := w.heap.size) (by simp)
  have hp1 := hp0.below hb1
  obtain ⟨f0, f1, c0, c1⟩ := hp1.facts
  have hpos : decide ((k : Int) > 0) = decide (0 < N.nv l) := by
    have hl := hs1.len
    rcases Nat.eq_zero_or_pos (N.nv l) with h0 | h0
    · have := ofN_len_zero hl h0
      subst this
      rw [h0]; rfl
    · have := ofN_len_pos hl h0
      rw [decide_eq_true h0]; exact decide_eq_true (by omega)
  have HPOS := Lib.hid hpos
  have hbw := hb0.trans (hb1.mono (by simp))
  clear hpos hp0 hs
  have hbg : Bag w1 (.slice B k d) K (N.nv l) := ⟨_, _, _, rfl, hB, hs1, by omega⟩
  have hk0 : decide (0 < k) = decide (0 < N.nv l) := by rw [← HPOS.out]; simp
  cases s
  all_goals
    go_wp2_with fail
    refine bodyPost_ret (results_cell_row rfl _ _ _ _ _ _ _ rfl (hp1.set _ _) Tryd.underlying24 rfl sizeInt) rfl ?_
    refine ⟨_, rfl, ⟨_, ?_, by rw [natAbs_sgn]; exact hbg.pair hp1 _ _⟩, below_pair hbw (Nat.le_refl _) _ _, (NwI.mk hn1).pair hp1 _ _⟩
    rw [sgn_neg]
    first | done | simp | simp [hk0]
theorem made_any (w : World) (s : Bool) (m : Value) (K x : Nat) (hm : Mag w m K x) (hK : K ≤ 35184372088832) :
    Calls Tryd.prog 53 #[.bool s, m] w fun e w' => ∃ v, e = .returned v ∧ ICan w' v K (sgn s x) ∧ Below w.heap.size w w' :=
  (made_n w s m K x hm hK).mono fun _ _ ⟨v, h1, h2, h3, _⟩ => ⟨v, h1, h2, h3⟩
end Go.Proofs.YtiidghfkdjefgaaDoor

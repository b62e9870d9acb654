/-
  A list of lent numbers, made by append.
-/
import Derived.Test.YtiidghfkdjefgaaDoorZLent
import Derived.Test.YtiidghfkdjefgaaDoorZRLcm
namespace Go.Proofs.YtiidghfkdjefgaaDoor
open Go.RowKit

theorem info_int : (Tryd.prog.info? 24).map (fun i => (i.zero, i.size, i.bytes)) = some (some (.agg #[.bool false, .slice none 0 0]), 2, 32) := by kernel_rfl
/-- A lent number: its sign, its list's block and length. -/
def rcs (rs : List (Bool × Nat × Nat)) : List Value := rs.flatMap fun r => [.bool r.1, .slice (some ⟨r.2.1, 0, none⟩) r.2.2 (r.2.2 + 2)]
theorem rcs_snoc (rs : List (Bool × Nat × Nat)) (r : Bool × Nat × Nat) : rcs (rs ++ [r]) = rcs rs ++ [.bool r.1, .slice (some ⟨r.2.1, 0, none⟩) r.2.2 (r.2.2 + 2)] := by simp [rcs]
theorem rcs_length (rs : List (Bool × Nat × Nat)) : (rcs rs).length = rs.length * 2 := by
  induction rs with
  | nil => rfl
  | cons r rs ih => simp only [rcs, List.flatMap_cons, List.length_append, List.length_cons, List.length_nil] at ih ⊢; omega
theorem rcs_get (rs : List (Bool × Nat × Nat)) (i : Nat) (h : i < rs.length) : (rcs rs)[i * 2]? = some (.bool (rs.getD i (false, 0, 0)).1) ∧ (rcs rs)[i * 2 + 1]? = some (.slice (some ⟨(rs.getD i (false, 0, 0)).2.1, 0, none⟩) (rs.getD i (false, 0, 0)).2.2 ((rs.getD i (false, 0, 0)).2.2 + 2)) := by
  induction rs generalizing i with
  | nil => simp at h
  | cons r rs ih =>
    cases i with
    | zero => exact ⟨rfl, rfl⟩
    | succ i =>
      have := ih i (by simpa using h)
      have e : rcs (r :: rs) = .bool r.1 :: .slice (some ⟨r.2.1, 0, none⟩) r.2.2 (r.2.2 + 2) :: rcs rs := rfl
      rw [e, show (i + 1) * 2 = i * 2 + 1 + 1 by omega]
      exact ⟨this.1, this.2⟩
theorem rcs_one (rs : List (Bool × Nat × Nat)) : ∀ u ∈ rcs rs, u.oneCell' = true := fun u hu => by
  simp only [rcs, List.mem_flatMap, List.mem_cons, List.not_mem_nil, or_false] at hu
  obtain ⟨r, _, rfl | rfl⟩ := hu <;> rfl
/-- The row of a call's own that holds lent numbers. -/
structure OutZ (w : World) (base : Nat) (v : Value) (rs : List (Bool × Nat × Nat)) : Prop where
  own : w.ownsRow base 24 2 v rs.length (rcs rs)
section
variable {w w' : World} {base : Nat} {v : Value} {rs : List (Bool × Nat × Nat)}
theorem OutZ.nil (w : World) (base : Nat) : OutZ w base (.slice none 0 0) [] := ⟨World.ownsRow_nil _ _ _ _⟩
theorem OutZ.kept (h : OutZ w base v rs) {row : Option Nat} (hg : w.grownBy w' row) (hne : v.ownBlock = none ∨ v.ownBlock ≠ row) : OutZ w' base v rs := ⟨h.own.kept hg hne⟩
theorem OutZ.below (h : OutZ w base v rs) (hb : Below w.heap.size w w') : OutZ w' base v rs := h.kept (gb_of_below hb none) (by cases v.ownBlock <;> simp)
end
/-- 'append(own, x)', x laid in a list of its own. -/
theorem wpList_append_lent {P : Program} (w : World) {ops : Array Oper} {rest : List Oper} {o : Oper} {a : Act} {Q : Exit → Act → World → Prop} (hgd : o.guard = none) (s x : Operand) (t : TypeId)
    (ho : o.op = .call { callee := .builtin .append, args := #[s, x], argTypes := #[t, t] })
    (base : Nat) (i : TypeInfo) (ht : P.underlying t = some (.slice 24)) (hi : P.info? 24 = some i) (hz : i.zero = some (.agg #[.bool false, .slice none 0 0])) (hsize : i.size = 2) (hby : i.bytes = 32)
    (v : Value) (rs : List (Bool × Nat × Nat)) (hs : a.eval s = v) (hown : OutZ w base v rs)
    (g c : Nat) (r : Bool × Nat × Nat) (hx : a.eval x = .slice (some ⟨g, 0, none⟩) 1 c) (hc0 : w.cell? ⟨g, 0, none⟩ = some (.bool r.1)) (hc1 : w.cell? ⟨g, 1, none⟩ = some (.slice (some ⟨r.2.1, 0, none⟩) r.2.2 (r.2.2 + 2)))
    (hb : rs.length < 35184372088 ) (hbase : base ≤ w.heap.size)
    (h : ∀ v' w', OutZ w' base v' (rs ++ [r]) → w.grownBy w' v.ownBlock → v' ≠ .slice none 0 0 → wpList P ops Q rest (a.put o.dst v') w') : wpList P ops Q (o :: rest) a w := by
  refine wpList_append_src w hgd s x t ho base _ i (.agg #[.bool false, .slice none 0 0]) 2 32 ht hi hz hsize hby rfl (by omega) v rs.length (rcs rs) hs hown.own (some ⟨g, 0, none⟩) 1 c (rcs [r]) hx rfl ?_ (rcs_one _) (by unfold maxLen; omega) (by omega) hbase ?_
  · intro _
    refine ⟨_, rfl, fun j u hu => ?_⟩
    rw [Addr.add_lit, Nat.zero_add]
    match j with
    | 0 => have : u = .bool r.1 := by simpa [rcs] using hu.symm
           rw [this]; exact hc0
    | 1 => have : u = .slice (some ⟨r.2.1, 0, none⟩) r.2.2 (r.2.2 + 2) := by simpa [rcs] using hu.symm
           rw [this]; exact hc1
    | j + 2 => simp [rcs] at hu
  · intro v' w' h1 h2 h3
    refine h v' w' ⟨?_⟩ ?_ ?_
    · rw [List.length_append]
      have e : rcs (rs ++ [r]) = rcs rs ++ rcs [r] := by simp [rcs]
      rw [e]
      exact h1
    · exact h2
    · intro e
      have := (h3.1 e).2
      omega
/-- A list of numbers in memory, their signs and limbs as they are. -/
def ArrR (w : World) (A : Option Addr) (n K : Nat) (rs : List (Bool × List Nat)) : Prop := rs.length = n ∧ (0 < n → ∃ b o, A = some ⟨b, o, none⟩ ∧ ∀ i, i < n → ∃ B m c, w.cell? ⟨b, o + i * 2, none⟩ = some (.bool (rs.getD i (false, [])).1) ∧ w.cell? ⟨b, o + i * 2 + 1, none⟩ = some (.slice B m c) ∧ IRaw w (.agg #[.bool (rs.getD i (false, [])).1, .slice B m c]) K (rs.getD i (false, [])).1 (rs.getD i (false, [])).2)
theorem ArrR.below {w w' : World} {A : Option Addr} {n K : Nat} {rs : List (Bool × List Nat)} (h : ArrR w A n K rs) (hb : Below w.heap.size w w') : ArrR w' A n K rs := by
  refine ⟨h.1, fun hn => ?_⟩
  obtain ⟨b, o, e, hc⟩ := h.2 hn
  refine ⟨b, o, e, fun i hi => ?_⟩
  obtain ⟨B, m, c, h1, h2, h3⟩ := hc i hi
  exact ⟨B, m, c, keep_cell h1 hb, keep_cell h2 hb, h3.below hb⟩
/-- The numbers' values. -/
def vals (rs : List (Bool × List Nat)) : List Int := rs.map fun r => sgn r.1 (N.nv r.2)
theorem vals_get (rs : List (Bool × List Nat)) (i : Nat) (h : i < rs.length) : (vals rs).getD i 0 = sgn (rs.getD i (false, [])).1 (N.nv (rs.getD i (false, [])).2) := by simp [vals, List.getD, h]
theorem ArrR.arr {w : World} {A : Option Addr} {n K : Nat} {rs : List (Bool × List Nat)} (h : ArrR w A n K rs) : ArrI w A n K (vals rs) := by
  refine ⟨by simp [vals, h.1], fun hn => ?_⟩
  obtain ⟨b, o, e, hc⟩ := h.2 hn
  refine ⟨b, o, e, fun i hi => ?_⟩
  obtain ⟨B, m, c, h1, h2, h3⟩ := hc i hi
  exact ⟨_, B, m, c, h1, h2, by rw [vals_get _ _ (by rw [h.1]; exact hi)]; exact h3.iv⟩
/-- The lent numbers rs tell the first of the numbers as they are. -/
def Lents (w : World) (v : Value) (base : Nat) (rs : List (Bool × Nat × Nat)) (raws : List (Bool × List Nat)) (K : Nat) : Prop :=
  ∀ i, i < rs.length → (rs.getD i (false, 0, 0)).1 = (raws.getD i (false, [])).1 ∧ (raws.getD i (false, [])).2.length = (rs.getD i (false, 0, 0)).2.2 ∧ (rs.getD i (false, 0, 0)).2.2 ≤ K ∧ v.ownBlock ≠ some (rs.getD i (false, 0, 0)).2.1 ∧ base ≤ (rs.getD i (false, 0, 0)).2.1 ∧
    Lnt w (rs.getD i (false, 0, 0)).2.1 (rs.getD i (false, 0, 0)).2.2 (raws.getD i (false, [])).2
theorem Lents.below {w w' : World} {v : Value} {base K : Nat} {rs : List (Bool × Nat × Nat)} {raws : List (Bool × List Nat)} (h : Lents w v base rs raws K) (hb : Below w.heap.size w w') : Lents w' v base rs raws K := fun i hi => by
  obtain ⟨h1, h2, h3, h4, h5, h6⟩ := h i hi
  exact ⟨h1, h2, h3, h4, h5, Sl.below h6 hb⟩
theorem lnt_lt {w : World} {g n : Nat} {l : List Nat} (h : Lnt w g n l) : g < w.heap.size := by
  obtain ⟨b, o, e, hc⟩ := h.cells (by omega)
  injection e with e
  injection e with e _ _
  subst e
  exact World.block_lt_of_cell? w _ (hc 0 (by omega))
theorem lnt_kept {w w' : World} {g n : Nat} {l : List Nat} {row : Option Nat} (h : Lnt w g n l) (hg : w.grownBy w' row) (hne : row ≠ some g) : Lnt w' g n l := by
  refine ⟨h.len, h.cap, h.lim, fun hn => ?_⟩
  obtain ⟨b, o, e, hc⟩ := h.cells hn
  refine ⟨b, o, e, fun k hk => ?_⟩
  injection e with e
  injection e with e _ _
  subst e
  exact (World.cell?_of_block (a := ⟨g, o + k, none⟩) (hg.block g (lnt_lt h) (fun e => hne e.symm))).trans (hc k hk)
end Go.Proofs.YtiidghfkdjefgaaDoor

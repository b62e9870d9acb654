/-
  Copies into limbs of the call's own; rows of limbs that begin as nil and are appended to.
-/
import Derived.Test.YtiidghfkdjefgaaDoorVal
import Derived.Test.YtiidghfkdjefgaaDoorRefMath
import Derived.Laws.CopyOwn
namespace Go.Proofs.YtiidghfkdjefgaaDoor
open Go.RowKit

theorem lv_take (l : List Nat) (k : Nat) : lv (l.take k) = (lv l).take k := by simp [lv, List.map_take]
theorem lv_splice (l r : List Nat) (k : Nat) : lv (splice l k r) = splice (lv l) k (lv r) := by
  simp [lv, splice, List.map_take, List.map_drop]
theorem splice_all (n : Nat) (r : List Nat) (h : r.length = n) : splice (List.replicate n 0) 0 r = r := by
  simp [splice, h]
theorem N.Lim.splice {l r : List Nat} (hl : N.Lim l) (hr : N.Lim r) (k : Nat) : N.Lim (Go.splice l k r) := (hl.take k).app (hr.app (hl.drop _))
theorem take_splice {α : Type} (L : List α) (off : Nat) (cs : List α) (n : Nat) (h : off + cs.length ≤ n) : (splice L off cs).take n = splice (L.take n) off cs := by
  unfold splice
  apply List.ext_getElem?
  intro k
  simp only [List.getElem?_append, List.getElem?_take, List.getElem?_drop, List.length_take]
  grind

/-- A guard: the walk stands at a copy. -/
theorem at_copy {P : Program} {w : World} {ops : Array Oper} {rest : List Oper} {dst : Option Tmp} {A : Array Operand} {T : Array TypeId} {ty : TypeId} {p : String} {af : Array Edge} {g : Option (Nat × Bool)} {a : Act} {Q : Exit → Act → World → Prop}
    (h : wpList P ops Q (⟨dst, .call { callee := .builtin .copy, args := A, argTypes := T }, ty, p, af, g⟩ :: rest) a w) : wpList P ops Q (⟨dst, .call { callee := .builtin .copy, args := A, argTypes := T }, ty, p, af, g⟩ :: rest) a w := h

/-- 'copy(dst, src)' of limbs, dst in a row of the call's own. -/
theorem wpList_copy_lim {P : Program} {w : World} {ops : Array Oper} {rest : List Oper} {o : Oper} {a : Act} {Q : Exit → Act → World → Prop} (hgd : o.guard = none) (d s : Operand) (dT sT : TypeId)
    (ho : o.op = .call { callee := .builtin .copy, args := #[d, s], argTypes := #[dT, sT] }) (hu : P.underlying dT = some (.slice 65)) (hsz : (P.info? 65).map (·.size) = some 1)
    (dp sp : Option Addr) (dLen dCap sLen sCap : Nat) (hd : a.eval d = .slice dp dLen dCap) (hs : a.eval s = .slice sp sLen sCap)
    (base g n c off : Nat) (l : List Nat) (hown : Own w base g n c l) (r : List Nat) (hsrc : Sl w sp sLen sCap r) (k : Nat) (hk : k = Nat.min sLen dLen) (hdp : 0 < k → dp = some ⟨g, off, none⟩) (hfit : off + k ≤ n)
    (ys : List Nat) (hys : splice l off (r.take k) = ys)
    (B : Nat) (w0 : World) (hb : Below B w0 w) (hBg : B ≤ g)
    (h : ∀ w', Own w' base g n c ys → Below B w0 w' → wpList P ops Q rest (a.put o.dst (goInt k)) w') :
    wpList P ops Q (o :: rest) a w := by
  subst hys
  have hl := hown.len
  have hsl := hsrc.len
  have hks : k ≤ sLen := by rw [hk]; exact Nat.min_le_left _ _
  have hlk : (r.take k).length = k := by rw [List.length_take]; omega
  rcases hown.own.2 with ⟨e, _⟩ | ⟨g', cap, cur, e, a1, a2, a3, a4, a5, a6⟩
  · cases e
  injection e with e1 e2 e3
  injection e1 with e1; injection e1 with e1
  subst e1; subst e3
  have hcl : (lv (r.take k)).length = k := by rw [lv_length, hlk]
  have hcs : cur.size = c := by omega
  refine wpList_copy_splice hgd d s dT sT ho _ hu hsz dp sp dLen dCap sLen sCap hd hs g off cur.toList _ (by simpa using a2) (lv (r.take k)) (by rw [hcl, hk]) ?_ (by rw [hcl, Array.length_toList]; omega) (lv_oneCell _) B w0 hb hBg ?_
  · intro h0
    rw [hcl] at h0
    refine ⟨hdp h0, ?_⟩
    obtain ⟨ad, e, hc⟩ := hsrc.news (by omega)
    refine ⟨ad, e, fun j v hv => hc j v ?_⟩
    rw [lv_take] at hv
    rw [List.getElem?_take] at hv
    split at hv
    · exact hv
    · cases hv
  · intro w' hg hb'
    have hg := hg.out
    rw [hcl]
    refine h w' ⟨⟨?_, .inr ⟨g, c, _, rfl, a1, hg, a3, a4, ?_, ?_⟩⟩, N.Lim.splice hown.lim (hsrc.lim.take k) off, full_of_ints hg ?_ ?_⟩ hb'
    · rw [lv_length, length_splice _ _ _ (by omega)]; omega
    · rw [List.size_toArray, length_splice _ _ _ (by rw [hcl, Array.length_toList]; omega), Array.length_toList]; omega
    · rw [lv_splice, ← a6, List.toList_toArray, take_splice _ _ _ _ (by omega)]
    · have hi := ints_of_full a2 hown.full (by omega)
      intro u hu
      rw [List.toList_toArray] at hu
      simp only [splice, List.mem_append] at hu
      rcases hu with hu | hu | hu
      · exact hi u (List.mem_of_mem_take hu)
      · exact ints_lv _ u hu
      · exact hi u (List.mem_of_mem_drop hu)
    · rw [List.size_toArray, length_splice _ _ _ (by rw [hcl, Array.length_toList]; omega), Array.length_toList]; omega

/-- A row of limbs of the call's own, nil at first. -/
structure Out (w : World) (base : Nat) (v : Value) (l : List Nat) : Prop where
  own : w.ownsRow base 65 1 v l.length (lv l)
  lim : N.Lim l
section
variable {w w' : World} {base : Nat} {v : Value} {l : List Nat}
theorem Out.nil (w : World) (base : Nat) : Out w base (.slice none 0 0) [] := ⟨World.ownsRow_nil _ _ _ _, N.Lim.nil⟩
theorem Out.kept (h : Out w base v l) {row : Option Nat} (hg : w.grownBy w' row) (hne : v.ownBlock = none ∨ v.ownBlock ≠ row) : Out w' base v l := ⟨h.own.kept hg hne, h.lim⟩
theorem Out.below (h : Out w base v l) (hb : Below w.heap.size w w') : Out w' base v l :=
  h.kept (gb_of_below hb none) (by cases v.ownBlock <;> simp)
theorem Out.drewN (h : Out w base v l) (k : Nat) : Out (w.drewN k) base v l := ⟨h.own, h.lim⟩
theorem Out.sl (h : Out w base v l) : ∃ A c, v = .slice A l.length c ∧ Sl w A l.length c l := by
  rcases h.own.2 with ⟨rfl, h0⟩ | ⟨g, cap, cur, rfl, _, _, hle, _⟩
  · have := List.eq_nil_of_length_eq_zero h0
    subst this
    exact ⟨none, 0, rfl, Sl.nil _ _ _⟩
  · refine ⟨some ⟨g, 0, none⟩, cap, rfl, rfl, hle, h.lim, fun _ => ⟨g, 0, rfl, fun k hk => ?_⟩⟩
    rw [Nat.zero_add, h.own.cellAt k (by omega), lv_get l k hk]
end
theorem cell1 {w : World} {X : Int} {z : Nat} {g : Nat} (hg : g = w.heap.size) (h : X = (z : Nat)) : (w.alloc (.cells #[.int .u32 X] 65)).cell? ⟨g, 0, none⟩ = some (.int .u32 (z : Nat)) := by
  subst h; subst hg
  rw [cell_of_row _ _ _ _ _ _ (heap_alloc_new w _)]
  rfl
theorem out_alloc {w : World} {base : Nat} {v : Value} {l : List Nat} (h : Out w base v l) (o : Obj) : Out (w.alloc o) base v l := h.below ((Below.refl _ _).alloc (Nat.le_refl _) _)
theorem out_below {w wr w2 : World} {base : Nat} {v : Value} {l : List Nat} {o : Obj} (hb : Below base w wr) (hown : Out wr base v l) (hbase : base ≤ wr.heap.size) (hgr : (wr.alloc o).grownBy w2 v.ownBlock) : Below base w w2 :=
  (hb.alloc hbase _).grown hgr (by simp; omega) (fun k hk => (hown.own.lt k hk).1)
/-- 'append(out, x)', x laid in a list of its own. -/
theorem wpList_append_out {P : Program} (w : World) {ops : Array Oper} {rest : List Oper} {o : Oper} {a : Act} {Q : Exit → Act → World → Prop} (hgd : o.guard = none) (s x : Operand) (t : TypeId)
    (ho : o.op = .call { callee := .builtin .append, args := #[s, x], argTypes := #[t, t] })
    (base : Nat) (i : TypeInfo) (ht : P.underlying t = some (.slice 65)) (hi : P.info? 65 = some i) (hz : i.zero = some (.int .u32 0)) (hsize : i.size = 1) (hby : i.bytes = 4)
    (v : Value) (l : List Nat) (hs : a.eval s = v) (hown : Out w base v l)
    (g c z : Nat) (hx : a.eval x = .slice (some ⟨g, 0, none⟩) 1 c) (hzl : z < 4294967296) (hcell : w.cell? ⟨g, 0, none⟩ = some (.int .u32 (z : Nat)))
    (hb : l.length < 35184372088832) (hbase : base ≤ w.heap.size)
    (h : ∀ v' w', Out w' base v' (l ++ [z]) → w.grownBy w' v.ownBlock → wpList P ops Q rest (a.put o.dst v') w') : wpList P ops Q (o :: rest) a w := by
  refine wpList_append_src w hgd s x t ho base _ i (.int .u32 0) 1 4 ht hi hz hsize hby rfl (by omega) v l.length (lv l) hs hown.own (some ⟨g, 0, none⟩) 1 c (lv [z]) hx rfl ?_ (lv_oneCell _) (by unfold maxLen; omega) (by omega) hbase ?_
  · intro _
    refine ⟨_, rfl, fun j u hu => ?_⟩
    have hj : j = 0 := by have := (List.getElem?_eq_some_iff.1 hu).1; simpa [lv] using this
    subst hj
    rw [Addr.add_lit]
    have e : u = .int .u32 (z : Nat) := by simpa [lv] using hu.symm
    rw [e]; exact hcell
  · intro v' w' h2 h3 _
    refine h v' w' ⟨by rw [List.length_append]; rw [lv_append]; exact h2, hown.lim.app (N.Lim.cons hzl N.Lim.nil)⟩ h3
end Go.Proofs.YtiidghfkdjefgaaDoor

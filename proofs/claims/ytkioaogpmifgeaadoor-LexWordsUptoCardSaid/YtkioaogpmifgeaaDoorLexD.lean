/-
  lex.Tokens' closure: contract.
-/
import Derived.Test.YtkioaogpmifgeaaDoorLexC
import Derived.Deep.Cut
namespace Go.Proofs.YtkioaogpmifgeaaDoor
open Go.RowKit

/-- Of what lay in w all is as it was, but the blocks of which x speaks. -/
structure Fr (w w' : World) (x : Nat → Prop) : Prop where
  os : w'.os = w.os
  tape : w'.tape = w.tape
  output : w'.output = w.output
  size : w.heap.size ≤ w'.heap.size
  block : ∀ b, b < w.heap.size → ¬ x b → w'.heap[b]? = w.heap[b]?
section
variable {w w' w1 w2 : World} {x y : Nat → Prop} {b : Nat} {t : TypeId} {cs : Array Value}
theorem Fr.refl (w : World) (x : Nat → Prop) : Fr w w x := ⟨rfl, rfl, rfl, Nat.le_refl _, fun _ _ _ => rfl⟩
theorem Fr.below (h : Fr w w1 x) (hb : Below w1.heap.size w1 w2) : Fr w w2 x :=
  ⟨hb.os.trans h.os, hb.tape.trans h.tape, hb.output.trans h.output, Nat.le_trans h.size hb.size, fun b hlt hx => (hb.block b (by have := h.size; omega)).trans (h.block b hlt hx)⟩
theorem Fr.set (h : Fr w w1 x) (hb : x b ∨ w.heap.size ≤ b) (i : Nat) (u : Value) : Fr w (w1.setCell ⟨b, i, none⟩ u) x :=
  ⟨h.os, h.tape, h.output, by simpa [World.setCell] using h.size, fun k hk hx => (Below.heap_setCell w1 ⟨b, i, none⟩ u k (fun e => by
    have e' : k = b := e
    subst e'
    rcases hb with hb | hb
    · exact hx hb
    · omega)).trans (h.block k hk hx)⟩
theorem Fr.grown {row : Option Nat} (h : Fr w w1 x) (hg : w1.grownBy w2 row) (hr : ∀ k, row = some k → x k ∨ w.heap.size ≤ k) : Fr w w2 x :=
  ⟨hg.os.trans h.os, hg.tape.trans h.tape, hg.output.trans h.output, Nat.le_trans h.size hg.size, fun k hk hx => (hg.block k (by have := h.size; omega) (fun e => by rcases hr k e.symm with h1 | h1; exact hx h1; omega)).trans (h.block k hk hx)⟩
theorem Fr.step (h : Fr w w1 x) (h' : Fr w1 w2 y) (hy : ∀ k, y k → x k ∨ w.heap.size ≤ k) : Fr w w2 x :=
  ⟨h'.os.trans h.os, h'.tape.trans h.tape, h'.output.trans h.output, Nat.le_trans h.size h'.size, fun k hk hx => (h'.block k (by have := h.size; omega) (fun e => by rcases hy k e with h1 | h1; exact hx h1; omega)).trans (h.block k hk hx)⟩
theorem Fr.blk (h : Fr w w' x) (hp : Blk w b t cs) (hx : ¬ x b) : Blk w' b t cs := (h.block b hp.lt hx).trans hp
theorem Fr.below_of (h : Fr w w' x) (hx : ∀ k, x k → w.heap.size ≤ k) : Below w.heap.size w w' :=
  ⟨h.os, h.tape, h.output, h.size, fun k hk => h.block k hk (fun e => by have := hx k e; omega)⟩
end
theorem gb_blk {w w2 : World} {b : Nat} {t : TypeId} {cs : Array Value} {row : Option Nat} (h : Blk w b t cs) (hg : w.grownBy w2 row) (hne : some b ≠ row) : Blk w2 b t cs := (hg.block b h.lt hne).trans h
/-- A row of words is no block of another kind. -/
theorem OutT.off {w : World} {base b : Nat} {v : Value} {rs : List Tk} {t : TypeId} {cs : Array Value} (h : OutT w base v rs) (hp : Blk w b t cs) (ht : t ≠ 44) : v.ownBlock ≠ some b := by
  rcases h with ⟨rfl, _⟩ | ⟨g, cap, cur, rfl, _, h2, _⟩
  · intro e; cases e
  · intro e
    have e1 : g = b := by simpa [Value.ownBlock] using e
    subst e1
    have e2 := h2.symm.trans hp
    injection e2 with e2
    injection e2 with _ e2 _
    exact ht e2.symm
theorem OutT.base {w : World} {base b : Nat} {v : Value} {rs : List Tk} (h : OutT w base v rs) (e : v.ownBlock = some b) : base ≤ b ∧ b < w.heap.size := by
  rcases h with ⟨rfl, _⟩ | ⟨g, cap, cur, rfl, h1, h2, _⟩
  · cases e
  · have e1 : g = b := by simpa [Value.ownBlock] using e
    subst e1
    exact ⟨h1, (Array.getElem?_eq_some_iff.1 h2).1⟩
theorem tk_cells {w : World} {g : Nat} {t : TypeId} {k : Nat} {T : ByteArray} {m : Value} {p : Nat} (h : Blk w g t #[.int .i64 (k : Nat), .string T, .bool false, m, .int .i64 (p : Nat)]) : ∀ j u, (tk (k, T, m, p))[j]? = some u → w.cell? ⟨g, j, none⟩ = some u := fun j u hu => by
  rw [h.cell]
  rw [← List.getElem?_toArray] at hu
  exact hu
set_option maxRecDepth 100000 in
set_option maxHeartbeats 1600000 in
theorem tok1_c {w : World} {base Bo : Nat} {v : Value} {rs : List Tk} (hB : Blk w Bo 28 #[v]) (hown : OutT w base v rs) (hbase : base ≤ w.heap.size) (k p n c : Nat) (T : ByteArray) (A : Option Addr) (hlen : rs.length < 1048576) :
    Calls Tryd.prog 24 #[.agg #[.int .i64 (k : Nat), .string T, .bool false, .slice A n c, .int .i64 (p : Nat)], .pointer (some ⟨Bo, 0, none⟩)] w fun e w' => e = .returned (.bool true) ∧ ∃ v', Blk w' Bo 28 #[v'] ∧ OutT w' base v' (rs ++ [(k, T, .slice A n c, p)]) ∧ Fr w w' (fun b => b = Bo ∨ v.ownBlock = some b) := by
  obtain ⟨i0, hi, iz0, iz1, iz2⟩ := info_parts info_tok
  obtain ⟨A0, c0, rfl⟩ := hown.slice
  have hoff := hown.off hB (by decide)
  obtain ⟨W, hW, p2, hbW⟩ : ∃ W : World, W = w.alloc (.cells #[.int .i64 (k : Nat), .string T, .bool false, .slice A n c, .int .i64 (p : Nat)] 44) ∧ Blk W w.heap.size 44 #[.int .i64 (k : Nat), .string T, .bool false, .slice A n c, .int .i64 (p : Nat)] ∧ Below w.heap.size w W := ⟨_, rfl, Blk.new _ _ _, below_alloc1 _ _⟩
  have HW := Lib.hid hW
  have hBW := hB.below hbW
  have hoW := hown.below hbW
  clear hW hown hB
  go_enter Tryd.func24, Tryd.ntmps24
  go_upto_region 1 with (fail)
  rw [← HW.out]
  obtain ⟨_, c20, c21, c22, c23, c24⟩ := p2.facts
  have cB := hBW.cell 0
  have fB := hBW.free 0
  simp only [List.getElem?_toArray, List.getElem?_cons_zero] at cB
  have hsz := hbW.size
  go_wp2_with (at_builtin; refine wpList_append_tok _ rfl (.tmp 4) (.tmp 6) 28 rfl base i0 Tryd.underlying28 hi iz0 iz1 iz2 _ rs rfl (hoW.below (below_alloc1 _ _)) _ 1 (k, T, .slice A n c, p) rfl (tk_cells (Blk.new _ _ _)) rfl hlen (by simp; omega) ?_; intro g' cap w3 ho3 hg3 hor; have hB3 := gb_blk (hBW.below (below_alloc1 _ _)) hg3 (Ne.symm hoff); have cB3 := hB3.cell 0; have fB3 := hB3.free 0; simp only [List.getElem?_toArray, List.getElem?_cons_zero] at cB3; clear cB fB)
  go_ret
  have hne : g' ≠ Bo := fun e => ho3.off hB3 (by decide) (by rw [e]; rfl)
  refine ⟨rfl, _, hB3.put 0 _, ho3.kept (gb_set (World.grownBy.refl _ _) 0 _) (.inr (fun e => hne (by injection e))), ?_⟩
  refine Fr.set (Fr.grown (((Fr.refl w _).below hbW).below (below_alloc1 _ _)) hg3 (fun q hq => .inl (.inr hq))) (.inl (.inl rfl)) 0 _
end Go.Proofs.YtkioaogpmifgeaaDoor

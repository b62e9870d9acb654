/-
  lex.rowed, lex.one: contracts.
-/
import Derived.Test.YtkioaogpmifgeaaDoorLexA
import Derived.Laws.Rows
import Derived.Deep.Cut
namespace Go.Proofs.YtkioaogpmifgeaaDoor
open Go.RowKit

theorem below_on {wk w w' : World} (h : Below wk.heap.size wk w) (hb : Below w.heap.size w w') : Below wk.heap.size wk w' := h.trans (hb.mono h.size)
theorem below_alloc1 (w : World) (o : Obj) : Below w.heap.size w (w.alloc o) := (Below.refl _ _).alloc (Nat.le_refl _) o
/-- A block of these cells. -/
def Blk (w : World) (b : Nat) (t : TypeId) (cs : Array Value) : Prop := w.heap[b]? = some (.cells cs t (0, 0))
section
variable {w w' : World} {b b' : Nat} {t : TypeId} {cs : Array Value} {a0 a1 a2 a3 a4 : Value}
theorem Blk.new (w : World) (t : TypeId) (cs : Array Value) : Blk (w.alloc (.cells cs t)) w.heap.size t cs := heap_alloc_new w _
theorem Blk.lt (h : Blk w b t cs) : b < w.heap.size := (Array.getElem?_eq_some_iff.1 h).1
theorem Blk.below (h : Blk w b t cs) (hb : Below w.heap.size w w') : Blk w' b t cs := (hb.block b h.lt).trans h
theorem Blk.keep {B : Nat} (h : Blk w b t cs) (hb : Below B w w') (hlt : b < B) : Blk w' b t cs := (hb.block b hlt).trans h
theorem Blk.free (h : Blk w b t cs) (i : Nat) : w.frozen? ⟨b, i, none⟩ = false := frozen_of_row _ _ _ _ _ h
theorem Blk.cell (h : Blk w b t cs) (i : Nat) : w.cell? ⟨b, i, none⟩ = cs[i]? := cell_of_row _ _ _ _ _ _ h
theorem Blk.far (h : Blk w b t cs) (hne : b ≠ b') (i : Nat) (u : Value) : Blk (w.setCell ⟨b', i, none⟩ u) b t cs := (Below.heap_setCell w ⟨b', i, none⟩ u b hne).trans h
theorem Blk.put (h : Blk w b t cs) (i : Nat) (u : Value) : Blk (w.setCell ⟨b, i, none⟩ u) b t (cs.setIfInBounds i u) := heap_setCell_same _ _ i _ _ u h
theorem Blk.facts (h : Blk w b t #[a0, a1, a2, a3, a4]) : (w.frozen? ⟨b, 0, none⟩ = false ∧ w.frozen? ⟨b, 1, none⟩ = false ∧ w.frozen? ⟨b, 2, none⟩ = false ∧ w.frozen? ⟨b, 3, none⟩ = false ∧ w.frozen? ⟨b, 4, none⟩ = false) ∧
    w.cell? ⟨b, 0, none⟩ = some a0 ∧ w.cell? ⟨b, 1, none⟩ = some a1 ∧ w.cell? ⟨b, 2, none⟩ = some a2 ∧ w.cell? ⟨b, 3, none⟩ = some a3 ∧ w.cell? ⟨b, 4, none⟩ = some a4 :=
  ⟨⟨h.free _, h.free _, h.free _, h.free _, h.free _⟩, h.cell _, h.cell _, h.cell _, h.cell _, h.cell _⟩
theorem Blk.set5 (h : Blk w b t #[a0, a1, a2, a3, a4]) (u0 u1 u2 u3 u4 : Value) : Blk (((((w.setCell ⟨b, 0, none⟩ u0).setCell ⟨b, 1, none⟩ u1).setCell ⟨b, 2, none⟩ u2).setCell ⟨b, 3, none⟩ u3).setCell ⟨b, 4, none⟩ u4) b t #[u0, u1, u2, u3, u4] :=
  ((((h.put 0 u0).put 1 u1).put 2 u2).put 3 u3).put 4 u4
theorem Blk.facts2 (h : Blk w b t #[a0, a1]) : (w.frozen? ⟨b, 0, none⟩ = false ∧ w.frozen? ⟨b, 1, none⟩ = false) ∧ w.cell? ⟨b, 0, none⟩ = some a0 ∧ w.cell? ⟨b, 1, none⟩ = some a1 :=
  ⟨⟨h.free _, h.free _⟩, h.cell _, h.cell _⟩
theorem Blk.set2 (h : Blk w b t #[a0, a1]) (u0 u1 : Value) : Blk ((w.setCell ⟨b, 0, none⟩ u0).setCell ⟨b, 1, none⟩ u1) b t #[u0, u1] := (h.put 0 u0).put 1 u1
end
theorem below5 {B b : Nat} {w w' : World} (h : Below B w w') (hb : B ≤ b) (u0 u1 u2 u3 u4 : Value) : Below B w (((((w'.setCell ⟨b, 0, none⟩ u0).setCell ⟨b, 1, none⟩ u1).setCell ⟨b, 2, none⟩ u2).setCell ⟨b, 3, none⟩ u3).setCell ⟨b, 4, none⟩ u4) :=
  ((((h.setCell hb _).setCell hb _).setCell hb _).setCell hb _).setCell hb _
theorem Own.blk {w : World} {base g n c : Nat} {l : List Nat} (h : Own w base g n c l) : ∃ cur, w.heap[g]? = some (.cells cur 54 (0, 0)) := by
  rcases h.own.2 with ⟨e, _⟩ | ⟨g', cap, cur, e, _, hg, _⟩
  · cases e
  · injection e with e _ _; injection e with e; injection e with e _ _
    subst e
    exact ⟨cur, hg⟩
theorem Own.off {w : World} {base g n c b : Nat} {l : List Nat} {t : TypeId} {cs : Array Value} (h : Own w base g n c l) (hp : Blk w b t cs) (ht : t ≠ 54) : g ≠ b := fun e => by
  subst e
  obtain ⟨cur, hg⟩ := h.blk
  have e2 := hg.symm.trans hp
  injection e2 with e2
  injection e2 with _ e2 _
  exact ht e2.symm
theorem sizeTok : (Tryd.prog.info? 44).map (·.size) = some 5 := by kernel_rfl
theorem sizeMis : (Tryd.prog.info? 25).map (·.size) = some 2 := by kernel_rfl
/-- A word and a number: the results. -/
theorem results_tok {fn : Func} {p u : Tmp} (h : fn.results = #[.cell p 44, .tmp u]) (tmps : Array Value) (w : World) (g : Nat) (t : TypeId) (a0 a1 a2 a3 a4 : Value)
    (hp : tmps.getD p undef = .pointer (some ⟨g, 0, none⟩)) (hg : Blk w g t #[a0, a1, a2, a3, a4]) :
    (results fn tmps).run Tryd.prog w = .ok (.tuple #[.agg #[a0, a1, a2, a3, a4], tmps.getD u undef]) w := by
  have hp' : tmps[p]?.getD undef = .pointer (some ⟨g, 0, none⟩) := by simpa using hp
  simp [results, h, hp', asAddr, run_loadVar_row w g _ 44 _ _ _ hg Tryd.underlying44 rfl sizeTok]
theorem clone_s (w : World) (S : ByteArray) (hS : S.size ≤ 281474976710656) :
    Calls Tryd.prog 41 #[.string S] w fun e w' => e = .returned (.string S) ∧ Below w.heap.size w w' := by
  go_enter Tryd.func41, Tryd.ntmps41
  go_wp2_with (go_at_call 45; refine (Tryd.stringslite_Clone _ _ hS).mono ?_; rintro e w2 ⟨rfl, hb⟩)
  go_ret
  exact ⟨rfl, hb⟩
/-- A number's list: new, and just its limbs; of other words none. -/
def MagOf (base : Nat) (w : World) (m : Value) (k : Nat) (l : List UInt8) : Prop := if k = 1 then ∃ g n c, m = .slice (some ⟨g, 0, none⟩) n c ∧ Own w base g n c (N.ofN (N.val l)) else m = .slice none 0 0
theorem MagOf.other {base : Nat} {w : World} {k : Nat} {l : List UInt8} (h : k ≠ 1) : MagOf base w (.slice none 0 0) k l := by unfold MagOf; rw [if_neg h]
theorem MagOf.num {base : Nat} {w : World} {g n c : Nat} {l : List UInt8} (h : Own w base g n c (N.ofN (N.val l))) : MagOf base w (.slice (some ⟨g, 0, none⟩) n c) 1 l := by unfold MagOf; rw [if_pos rfl]; exact ⟨g, n, c, rfl, h⟩
theorem MagOf.below {base : Nat} {w w' : World} {m : Value} {k : Nat} {l : List UInt8} (h : MagOf base w m k l) (hb : Below w.heap.size w w') : MagOf base w' m k l := by
  unfold MagOf at h ⊢
  split
  · rename_i hk
    rw [if_pos hk] at h
    obtain ⟨g, n, c, e, ho⟩ := h
    exact ⟨g, n, c, e, ho.below hb⟩
  · rename_i hk
    rw [if_neg hk] at h
    exact h
theorem MagOf.le {base base' : Nat} {w : World} {m : Value} {k : Nat} {l : List UInt8} (h : MagOf base w m k l) (hb : base' ≤ base) : MagOf base' w m k l := by
  unfold MagOf at h ⊢
  split
  · rename_i hk
    rw [if_pos hk] at h
    obtain ⟨g, n, c, e, ho⟩ := h
    exact ⟨g, n, c, e, ho.mono hb⟩
  · rename_i hk
    rw [if_neg hk] at h
    exact h
theorem MagOf.far {base b : Nat} {w : World} {m : Value} {k : Nat} {l : List UInt8} {t : TypeId} {cs : Array Value} (h : MagOf base w m k l) (hp : Blk w b t cs) (ht : t ≠ 54) (i : Nat) (u : Value) : MagOf base (w.setCell ⟨b, i, none⟩ u) m k l := by
  unfold MagOf at h ⊢
  split
  · rename_i hk
    rw [if_pos hk] at h
    obtain ⟨g, n, c, e, ho⟩ := h
    exact ⟨g, n, c, e, ho.far (ho.off hp ht) i u⟩
  · rename_i hk
    rw [if_neg hk] at h
    exact h
theorem MagOf.five {base b : Nat} {w : World} {m : Value} {k : Nat} {l : List UInt8} {t : TypeId} {cs : Array Value} (h : MagOf base w m k l) (hp : Blk w b t cs) (ht : t ≠ 54) (u0 u1 u2 u3 u4 : Value) :
    MagOf base (((((w.setCell ⟨b, 0, none⟩ u0).setCell ⟨b, 1, none⟩ u1).setCell ⟨b, 2, none⟩ u2).setCell ⟨b, 3, none⟩ u3).setCell ⟨b, 4, none⟩ u4) m k l :=
  ((((h.far hp ht 0 u0).far (hp.put 0 u0) ht 1 u1).far ((hp.put 0 u0).put 1 u1) ht 2 u2).far (((hp.put 0 u0).put 1 u1).put 2 u2) ht 3 u3).far ((((hp.put 0 u0).put 1 u1).put 2 u2).put 3 u3) ht 4 u4
set_option maxRecDepth 100000 in
set_option maxHeartbeats 4000000 in
theorem rowed_x (w : World) (S : ByteArray) (h0 : 0 < S.size) (hS : S.size ≤ 4096) {r1 r2 : Nat} (hR : X.rowed S.data.toList = (r1, r2)) :
    Calls Tryd.prog 40 #[.string S] w fun e w' => ∃ T A n c, e = .returned (.tuple #[.agg #[.int .i64 (r2 : Nat), .string T, .bool false, .slice A n c, .int .i64 0], .int .i64 (r1 : Nat)]) ∧ (r1 = 0 → T = S ∧ MagOf w.heap.size w' (.slice A n c) r2 S.data.toList) ∧ Below w.heap.size w w' := by
  have hhd : S.data.toList.headD 0 = S[0]'h0 := by
    have h1 := getD_byte h0
    cases hh : S.data.toList with
    | nil => have := size_list S; rw [hh] at this; simp only [List.length_nil] at this; omega
    | cons c l => rw [hh] at h1; simpa [List.getD] using h1
  have h0i : (0 : Int) < S.size := by omega
  have p2 := Blk.new w 44 #[.int .i64 0, .string ⟨#[]⟩, .bool false, .slice none 0 0, .int .i64 0]
  obtain ⟨W, hW, hbW⟩ : ∃ W : World, W = w.alloc (.cells #[.int .i64 0, .string ⟨#[]⟩, .bool false, .slice none 0 0, .int .i64 0] 44) ∧ Below w.heap.size w W := ⟨_, rfl, below_alloc1 _ _⟩
  rw [← hW] at p2
  have HW := Lib.hid hW
  clear hW
  have HR := Lib.hid hR
  clear hR
  go_enter Tryd.func40, Tryd.ntmps40
  go_upto_region 1 with (fail)
  rw [← HW.out]
  go_upto_region 3 with (go_at_call 41; refine (clone_s _ S (by omega)).mono ?_; rintro e w1 ⟨rfl, hb1⟩)
  have p4 := Blk.new w1 44 #[.int .i64 0, .string S, .bool false, .slice none 0 0, .int .i64 0]
  obtain ⟨W2, hW2, hb2⟩ : ∃ W2 : World, W2 = w1.alloc (.cells #[.int .i64 0, .string S, .bool false, .slice none 0 0, .int .i64 0] 44) ∧ Below w1.heap.size w1 W2 := ⟨_, rfl, below_alloc1 _ _⟩
  rw [← hW2] at p4 ⊢
  obtain ⟨b4, hb4⟩ : ∃ b, b = w1.heap.size := ⟨_, rfl⟩
  have hlt : w.heap.size < b4 := by have h1 := hb1.size; have h2 := p2.lt; omega
  rw [← hb4] at p4 ⊢
  replace p2 := (p2.below hb1).below hb2
  have hbw := below_on (below_on hbW hb1) hb2
  clear hW2 hb4 hb1 hb2 hbW HW
  cases hd : X.digit (S[0]'h0)
  · obtain ⟨⟨f20, f21, f22, f23, f24⟩, c20, c21, c22, c23, c24⟩ := p2.facts
    obtain ⟨⟨f40, f41, f42, f43, f44⟩, c40, c41, c42, c43, c44⟩ := p4.facts
    cases hw : X.word S.data.toList
    · cases hn : X.name S.data.toList
      · have e1 : X.rowed S.data.toList = (30, 0) := by unfold X.rowed; rw [hhd, hd, hw, hn]; rfl
        have E1 := Lib.hid e1
        clear e1 hhd
        go_wp2_with (first
          | (go_at_call 38; refine (digit_x _ _).mono ?_; rintro e w3 ⟨rfl, rfl⟩; rw [hd])
          | (go_at_call 31; refine (word_x _ _).mono ?_; rintro e w3 ⟨rfl, rfl⟩; rw [hw])
          | (go_at_call 18; refine (isname_x _ _ (by omega)).mono ?_; rintro e w3 ⟨rfl, rfl⟩; rw [hn]))
        refine bodyPost_ret (results_tok rfl _ _ _ _ _ _ _ _ _ rfl (p2.set5 _ _ _ _ _)) rfl ?_
        have e1 := E1.out
        have e2 := HR.out
        rw [e1] at e2
        injection e2 with e2 e3
        subst e2; subst e3
        exact ⟨_, _, _, _, rfl, (fun h => by cases h), below5 (hbw) (Nat.le_refl _) _ _ _ _ _⟩
      · have e1 : X.rowed S.data.toList = (0, 2) := by unfold X.rowed; rw [hhd, hd, hw, hn]; rfl
        have E1 := Lib.hid e1
        clear e1 hhd
        go_wp2_with (first
          | (go_at_call 38; refine (digit_x _ _).mono ?_; rintro e w3 ⟨rfl, rfl⟩; rw [hd])
          | (go_at_call 31; refine (word_x _ _).mono ?_; rintro e w3 ⟨rfl, rfl⟩; rw [hw])
          | (go_at_call 18; refine (isname_x _ _ (by omega)).mono ?_; rintro e w3 ⟨rfl, rfl⟩; rw [hn]))
        refine bodyPost_ret (results_tok rfl _ _ _ _ _ _ _ _ _ rfl ((p2.far (by omega) 0 _).set5 _ _ _ _ _)) rfl ?_
        have e1 := E1.out
        have e2 := HR.out
        rw [e1] at e2
        injection e2 with e2 e3
        subst e2; subst e3
        exact ⟨_, _, _, _, rfl, fun _ => ⟨rfl, MagOf.other (by decide)⟩, below5 (hbw.setCell (by show w.heap.size ≤ b4; omega) _) (Nat.le_refl _) _ _ _ _ _⟩
    · have e1 : X.rowed S.data.toList = (0, 3) := by unfold X.rowed; rw [hhd, hd, hw]; rfl
      have E1 := Lib.hid e1
      clear e1 hhd
      go_wp2_with (first
        | (go_at_call 38; refine (digit_x _ _).mono ?_; rintro e w3 ⟨rfl, rfl⟩; rw [hd])
        | (go_at_call 31; refine (word_x _ _).mono ?_; rintro e w3 ⟨rfl, rfl⟩; rw [hw])
        | (go_at_call 18; refine (isname_x _ _ (by omega)).mono ?_; rintro e w3 ⟨rfl, rfl⟩; rw [hn]))
      refine bodyPost_ret (results_tok rfl _ _ _ _ _ _ _ _ _ rfl ((p2.far (by omega) 0 _).set5 _ _ _ _ _)) rfl ?_
      have e1 := E1.out
      have e2 := HR.out
      rw [e1] at e2
      injection e2 with e2 e3
      subst e2; subst e3
      exact ⟨_, _, _, _, rfl, fun _ => ⟨rfl, MagOf.other (by decide)⟩, below5 (hbw.setCell (by show w.heap.size ≤ b4; omega) _) (Nat.le_refl _) _ _ _ _ _⟩
  · by_cases hok : N.okTxt S.data.toList
    · have e1 : X.rowed S.data.toList = (0, 1) := by unfold X.rowed; rw [hhd, hd, if_pos rfl, if_pos hok]
      have E1 := Lib.hid e1
      clear e1 hhd
      go_wp2_with (first
        | (go_at_call 38; refine (digit_x _ _).mono ?_; rintro e w3 ⟨rfl, rfl⟩; rw [hd])
        | (go_at_call 44; refine (parse_ok _ S (by omega) hok).mono ?_; rintro e w3 ⟨g, n', c', rfl, hown, hb3⟩; replace hown := hown.mono hbw.size; have p2' := p2.below hb3; have p4' := p4.below hb3; replace hbw := below_on hbw hb3; obtain ⟨⟨f20, f21, f22, f23, f24⟩, c20, c21, c22, c23, c24⟩ := p2'.facts; obtain ⟨⟨f40, f41, f42, f43, f44⟩, c40, c41, c42, c43, c44⟩ := p4'.facts))
      have hg4 := hown.off p4' (by decide)
      have hg2 := hown.off p2' (by decide)
      refine bodyPost_ret (results_tok rfl _ _ _ _ _ _ _ _ _ rfl ((((p2'.far (by omega) 0 _).far (by omega) 2 _).far (by omega) 3 _).set5 _ _ _ _ _)) rfl ?_
      have e1 := E1.out
      have e2 := HR.out
      rw [e1] at e2
      injection e2 with e2 e3
      subst e2; subst e3
      exact ⟨_, _, _, _, rfl, (fun _ => ⟨rfl, MagOf.num (((((((((hown.far hg4 0 _).far hg4 2 _).far hg4 3 _).far hg2 0 _).far hg2 1 _).far hg2 2 _).far hg2 3 _).far hg2 4 _))⟩), below5 (((hbw.setCell (by show w.heap.size ≤ b4; omega) _).setCell (by show w.heap.size ≤ b4; omega) _).setCell (by show w.heap.size ≤ b4; omega) _) (Nat.le_refl _) _ _ _ _ _⟩
    · have e1 : X.rowed S.data.toList = (12, 0) := by unfold X.rowed; rw [hhd, hd, if_pos rfl, if_neg hok]
      have E1 := Lib.hid e1
      clear e1 hhd
      go_wp2_with (first
        | (go_at_call 38; refine (digit_x _ _).mono ?_; rintro e w3 ⟨rfl, rfl⟩; rw [hd])
        | (go_at_call 44; refine (parse_bad _ S (by omega) hok).mono ?_; rintro e w3 ⟨rfl, hb3⟩; have p2' := p2.below hb3; replace hbw := below_on hbw hb3; obtain ⟨⟨f20, f21, f22, f23, f24⟩, c20, c21, c22, c23, c24⟩ := p2'.facts))
      refine bodyPost_ret (results_tok rfl _ _ _ _ _ _ _ _ _ rfl (p2'.set5 _ _ _ _ _)) rfl ?_
      have e1 := E1.out
      have e2 := HR.out
      rw [e1] at e2
      injection e2 with e2 e3
      subst e2; subst e3
      exact ⟨_, _, _, _, rfl, (fun h => by cases h), below5 (hbw) (Nat.le_refl _) _ _ _ _ _⟩
/- rowed end -/
theorem idx_mem (l : List UInt8) (c : UInt8) : (0 ≤ Lib.indexByte l c) ↔ c ∈ l := by
  induction l with
  | nil => simp [Lib.indexByte]
  | cons b l ih =>
    unfold Lib.indexByte
    by_cases h : b = c
    · subst h; simp
    · have h1 : (b == c) = false := by simpa using h
      have h2 := Lib.indexByte_ge l c
      rw [h1]
      simp only [Bool.false_eq_true, if_false, List.mem_cons]
      by_cases h3 : Lib.indexByte l c = -1
      · rw [h3]; rw [h3] at ih; simp; simp at ih; exact ⟨fun e => h e.symm, ih⟩
      · rw [if_neg (by simpa using h3)]
        exact ⟨fun _ => .inr (ih.1 (by omega)), fun h4 => by rcases h4 with h4 | h4; exact absurd h4.symm h; have := ih.2 h4; omega⟩
theorem index_s (w : World) (S : ByteArray) (c : UInt8) :
    Calls Tryd.prog 34 #[.string S, .int .u8 (c.toNat : Nat)] w fun e w' => e = .returned (.int .i64 (Lib.indexByte S.data.toList c)) ∧ w = w' := by
  refine (Tryd.strings_IndexByte S (c.toNat : Nat) w).mono ?_
  rintro e w' ⟨rfl, rfl⟩
  exact ⟨by simp, rfl⟩
theorem sgn2_idx (c : UInt8) : (0 ≤ Lib.indexByte (⟨#[60, 62, 33]⟩ : ByteArray).data.toList c) ↔ X.sgn2 c = true := by
  rw [idx_mem]; unfold X.sgn2; simp [or_assoc]
theorem sgn1_idx (c : UInt8) : (0 ≤ Lib.indexByte (⟨#[60, 62, 61, 43, 45, 42, 46, 40, 41]⟩ : ByteArray).data.toList c) ↔ X.sgn1 c = true := by
  rw [idx_mem]; unfold X.sgn1; simp
set_option maxRecDepth 100000 in
set_option maxHeartbeats 4000000 in
theorem one_x (w : World) (S : ByteArray) (h0 : 0 < S.size) (hS : S.size ≤ 4096) {r1 r2 r3 : Nat} (hR : X.one S.data.toList = (r1, r2, r3)) :
    Calls Tryd.prog 35 #[.string S] w fun e w' => ∃ T A n c, e = .returned (.tuple #[.agg #[.int .i64 (r2 : Nat), .string T, .bool false, .slice A n c, .int .i64 0], .int .i64 (r1 : Nat)]) ∧ (r1 = 0 → T = S.extract 0 r3 ∧ MagOf w.heap.size w' (.slice A n c) r2 T.data.toList) ∧ Below w.heap.size w w' := by
  have hhd : S.data.toList.headD 0 = S[0]'h0 := by
    have h1 := getD_byte h0
    cases hh : S.data.toList with
    | nil => have := size_list S; rw [hh] at this; simp only [List.length_nil] at this; omega
    | cons c l => rw [hh] at h1; simpa [List.getD] using h1
  have h0i : (0 : Int) < S.size := by omega
  have hSi : (S.size : Int) ≤ 4096 := by omega
  have p2 := Blk.new w 44 #[.int .i64 0, .string ⟨#[]⟩, .bool false, .slice none 0 0, .int .i64 0]
  obtain ⟨W, hW, hbW⟩ : ∃ W : World, W = w.alloc (.cells #[.int .i64 0, .string ⟨#[]⟩, .bool false, .slice none 0 0, .int .i64 0] 44) ∧ Below w.heap.size w W := ⟨_, rfl, below_alloc1 _ _⟩
  rw [← hW] at p2
  have HW := Lib.hid hW
  clear hW
  have HR := Lib.hid hR
  clear hR
  obtain ⟨R, hRL⟩ : ∃ R, X.rowLen S.data.toList = R := ⟨_, rfl⟩
  have hRle : R ≤ S.size := by rw [← hRL, ← size_list]; exact X.rowLen_le _
  obtain ⟨⟨f20, f21, f22, f23, f24⟩, c20, c21, c22, c23, c24⟩ := p2.facts
  by_cases hR0 : 0 < R
  · have hR0i : (0 : Int) < R := by omega
    have hRi : (R : Int) ≤ S.size := by omega
    have d1 : decide ((R : Int) > 0) = true := decide_eq_true (by omega)
    have d2 : decide ((0 : Int) < R) = true := decide_eq_true (by omega)
    have hT : (S.extract 0 R).data.toList = S.data.toList.take R := ext_list
    have hTs : (S.extract 0 R).size = R := ext_size hRle
    obtain ⟨q1, q2, hq⟩ : ∃ q1 q2, X.rowed (S.extract 0 R).data.toList = (q1, q2) := ⟨_, _, rfl⟩
    have e1 : X.one S.data.toList = (q1, q2, R) := by unfold X.one; rw [hRL, if_pos hR0, ← hT, hq]
    have HQ := Lib.hid hq
    have E1 := Lib.hid e1
    have HTS := Lib.hid hTs
    clear e1 hT hTs hhd hq f20 f21 f22 f23 f24 c20 c21 c22 c23 c24
    go_enter Tryd.func35, Tryd.ntmps35
    go_upto_region 1 with (fail)
    rw [← HW.out]
    go_wp2_with (first
      | (go_at_call 30; refine (row_x _ _ (by omega)).mono ?_; rintro e w2 ⟨rfl, rfl⟩; rw [hRL])
      | (go_at_call 40; refine (rowed_x _ (S.extract 0 R) (by rw [HTS.out]; exact hR0) (by rw [HTS.out]; omega) HQ.out).mono ?_; rintro e w3 ⟨T, A, n, c, rfl, hok, hb3⟩; have p2' := p2.below hb3; have hbw := below_on hbW hb3; have hm := Lib.hid hok; clear hok; obtain ⟨⟨f20, f21, f22, f23, f24⟩, c20, c21, c22, c23, c24⟩ := p2'.facts))
    refine bodyPost_ret (results_tok rfl _ _ _ _ _ _ _ _ _ rfl (p2'.set5 _ _ _ _ _)) rfl ?_
    have e2 := HR.out
    rw [E1.out] at e2
    injection e2 with e2 e3
    injection e3 with e3 e4
    subst e2; subst e3; subst e4
    refine ⟨T, A, n, c, rfl, (fun h => ?_), below5 hbw (Nat.le_refl _) _ _ _ _ _⟩
    obtain ⟨h1, h2⟩ := hm.out h
    subst h1
    exact ⟨rfl, (h2.le hbW.size).five p2' (by decide) _ _ _ _ _⟩
  · obtain rfl : R = 0 := by omega
    have e1 : X.one S.data.toList = if X.sgnLen S.data.toList = 0 then (30, 0, 0) else (0, 4, X.sgnLen S.data.toList) := by unfold X.one; rw [hRL]; rfl
    have E1 := Lib.hid e1
    clear e1 hRle hR0
    obtain ⟨I1, hI1⟩ : ∃ I, Lib.indexByte (⟨#[60, 62, 61, 43, 45, 42, 46, 40, 41]⟩ : ByteArray).data.toList (S[0]'h0) = I := ⟨_, rfl⟩
    obtain ⟨I2, hI2⟩ : ∃ I, Lib.indexByte (⟨#[60, 62, 33]⟩ : ByteArray).data.toList (S[0]'h0) = I := ⟨_, rfl⟩
    have g1 := sgn1_idx (S[0]'h0)
    have g2 := sgn2_idx (S[0]'h0)
    rw [hI1] at g1
    rw [hI2] at g2
    have G1 := Lib.hid g1
    have G2 := Lib.hid g2
    clear g1 g2
    by_cases hsz : 1 < S.size
    · have hszi : (1 : Int) < S.size := by omega
      have ds1 : decide ((S.size : Int) > 1) = true := decide_eq_true (by omega)
      have ds2 : decide ((1 : Int) < S.size) = true := decide_eq_true (by omega)
      have hg1 : S.data.toList.getD 1 0 = S[1]'hsz := getD_byte hsz
      by_cases h61 : (S[1]'hsz) = 61
      · have d61 : (((S[1]'hsz).toNat : Int) == 61) = true := by rw [h61]; rfl
        cases hs2 : X.sgn2 (S[0]'h0)
        · have dK : decide (I2 ≥ 0) = false := decide_eq_false (by have := G2.out; rw [hs2] at this; simp at this; omega)
          have dL : decide (0 ≤ I2) = false := decide_eq_false (by have := G2.out; rw [hs2] at this; simp at this; omega)
          cases hs1 : X.sgn1 (S[0]'h0)
          · have dI : decide (I1 ≥ 0) = false := decide_eq_false (by have := G1.out; rw [hs1] at this; simp at this; omega)
            have dJ : decide (0 ≤ I1) = false := decide_eq_false (by have := G1.out; rw [hs1] at this; simp at this; omega)
            have hsl : X.sgnLen S.data.toList = 0 := by
              unfold X.sgnLen
              rw [if_neg (by rw [hhd, hs2]; simp), hhd, hs1]; rfl
            have HSL := Lib.hid hsl
            clear hsl hhd
            go_enter Tryd.func35, Tryd.ntmps35
            go_upto_region 1 with (fail)
            rw [← HW.out]
            go_wp2_with (first
              | (go_at_call 30; refine (row_x _ _ (by omega)).mono ?_; rintro e w2 ⟨rfl, rfl⟩; rw [hRL])
              | (go_at_call 34; refine (index_s _ _ _).mono ?_; rintro e w2 ⟨rfl, rfl⟩; rw [hI2])
              | (go_at_call 34; refine (index_s _ _ _).mono ?_; rintro e w2 ⟨rfl, rfl⟩; rw [hI1])
              | (go_at_call 41; refine (clone_s _ (S.extract 0 0) (by rw [ext_size (by omega)]; omega)).mono ?_; rintro e w3 ⟨rfl, hb3⟩; have p2' := p2.below hb3; have hbw := below_on hbW hb3; clear f20 f21 f22 f23 f24 c20 c21 c22 c23 c24; obtain ⟨⟨f20, f21, f22, f23, f24⟩, c20, c21, c22, c23, c24⟩ := p2'.facts))
            refine bodyPost_ret (results_tok rfl _ _ _ _ _ _ _ _ _ rfl (p2.set5 _ _ _ _ _)) rfl ?_
            have e2 := HR.out
            rw [E1.out, HSL.out] at e2
            rw [if_pos rfl] at e2
            injection e2 with e2 e3
            injection e3 with e3 e4
            subst e2; subst e3; subst e4
            exact ⟨_, _, _, _, rfl, (fun h => by cases h), below5 hbW (Nat.le_refl _) _ _ _ _ _⟩
          · have dI : decide (I1 ≥ 0) = true := decide_eq_true (by have := G1.out; rw [hs1] at this; simpa using this)
            have dJ : decide (0 ≤ I1) = true := decide_eq_true (by have := G1.out; rw [hs1] at this; simpa using this)
            have hsl : X.sgnLen S.data.toList = 1 := by
              unfold X.sgnLen
              rw [if_neg (by rw [hhd, hs2]; simp), hhd, hs1]; rfl
            have HSL := Lib.hid hsl
            clear hsl hhd
            go_enter Tryd.func35, Tryd.ntmps35
            go_upto_region 1 with (fail)
            rw [← HW.out]
            go_wp2_with (first
              | (go_at_call 30; refine (row_x _ _ (by omega)).mono ?_; rintro e w2 ⟨rfl, rfl⟩; rw [hRL])
              | (go_at_call 34; refine (index_s _ _ _).mono ?_; rintro e w2 ⟨rfl, rfl⟩; rw [hI2])
              | (go_at_call 34; refine (index_s _ _ _).mono ?_; rintro e w2 ⟨rfl, rfl⟩; rw [hI1])
              | (go_at_call 41; refine (clone_s _ (S.extract 0 1) (by rw [ext_size (by omega)]; omega)).mono ?_; rintro e w3 ⟨rfl, hb3⟩; have p2' := p2.below hb3; have hbw := below_on hbW hb3; clear f20 f21 f22 f23 f24 c20 c21 c22 c23 c24; obtain ⟨⟨f20, f21, f22, f23, f24⟩, c20, c21, c22, c23, c24⟩ := p2'.facts))
            refine bodyPost_ret (results_tok rfl _ _ _ _ _ _ _ _ _ rfl (p2'.set5 _ _ _ _ _)) rfl ?_
            have e2 := HR.out
            rw [E1.out, HSL.out] at e2
            rw [if_neg (by decide)] at e2
            injection e2 with e2 e3
            injection e3 with e3 e4
            subst e2; subst e3; subst e4
            exact ⟨_, _, _, _, rfl, (fun _ => ⟨rfl, MagOf.other (by decide)⟩), below5 hbw (Nat.le_refl _) _ _ _ _ _⟩
        · have dK : decide (I2 ≥ 0) = true := decide_eq_true (by have := G2.out; rw [hs2] at this; simpa using this)
          have dL : decide (0 ≤ I2) = true := decide_eq_true (by have := G2.out; rw [hs2] at this; simpa using this)
          have hsl : X.sgnLen S.data.toList = 2 := by
            unfold X.sgnLen
            rw [if_pos (by rw [hhd, hs2, hg1, size_list]; exact ⟨hsz, h61, rfl⟩)]
          have HSL := Lib.hid hsl
          clear hsl hhd
          go_enter Tryd.func35, Tryd.ntmps35
          go_upto_region 1 with (fail)
          rw [← HW.out]
          go_wp2_with (first
            | (go_at_call 30; refine (row_x _ _ (by omega)).mono ?_; rintro e w2 ⟨rfl, rfl⟩; rw [hRL])
            | (go_at_call 34; refine (index_s _ _ _).mono ?_; rintro e w2 ⟨rfl, rfl⟩; rw [hI2])
            | (go_at_call 34; refine (index_s _ _ _).mono ?_; rintro e w2 ⟨rfl, rfl⟩; rw [hI1])
            | (go_at_call 41; refine (clone_s _ (S.extract 0 2) (by rw [ext_size (by omega)]; omega)).mono ?_; rintro e w3 ⟨rfl, hb3⟩; have p2' := p2.below hb3; have hbw := below_on hbW hb3; clear f20 f21 f22 f23 f24 c20 c21 c22 c23 c24; obtain ⟨⟨f20, f21, f22, f23, f24⟩, c20, c21, c22, c23, c24⟩ := p2'.facts))
          refine bodyPost_ret (results_tok rfl _ _ _ _ _ _ _ _ _ rfl (p2'.set5 _ _ _ _ _)) rfl ?_
          have e2 := HR.out
          rw [E1.out, HSL.out] at e2
          rw [if_neg (by decide)] at e2
          injection e2 with e2 e3
          injection e3 with e3 e4
          subst e2; subst e3; subst e4
          exact ⟨_, _, _, _, rfl, (fun _ => ⟨rfl, MagOf.other (by decide)⟩), below5 hbw (Nat.le_refl _) _ _ _ _ _⟩
      · have d61 : (((S[1]'hsz).toNat : Int) == 61) = false := by
          have h1 : (S[1]'hsz).toNat ≠ 61 := fun e => h61 (UInt8.toNat_inj.1 e)
          simp; omega
        cases hs1 : X.sgn1 (S[0]'h0)
        · have dI : decide (I1 ≥ 0) = false := decide_eq_false (by have := G1.out; rw [hs1] at this; simp at this; omega)
          have dJ : decide (0 ≤ I1) = false := decide_eq_false (by have := G1.out; rw [hs1] at this; simp at this; omega)
          have hsl : X.sgnLen S.data.toList = 0 := by
            unfold X.sgnLen
            rw [if_neg (by rw [hg1]; exact fun h => h61 h.2.1), hhd, hs1]; rfl
          have HSL := Lib.hid hsl
          clear hsl hhd
          go_enter Tryd.func35, Tryd.ntmps35
          go_upto_region 1 with (fail)
          rw [← HW.out]
          go_wp2_with (first
            | (go_at_call 30; refine (row_x _ _ (by omega)).mono ?_; rintro e w2 ⟨rfl, rfl⟩; rw [hRL])
            | (go_at_call 34; refine (index_s _ _ _).mono ?_; rintro e w2 ⟨rfl, rfl⟩; rw [hI2])
            | (go_at_call 34; refine (index_s _ _ _).mono ?_; rintro e w2 ⟨rfl, rfl⟩; rw [hI1])
            | (go_at_call 41; refine (clone_s _ (S.extract 0 0) (by rw [ext_size (by omega)]; omega)).mono ?_; rintro e w3 ⟨rfl, hb3⟩; have p2' := p2.below hb3; have hbw := below_on hbW hb3; clear f20 f21 f22 f23 f24 c20 c21 c22 c23 c24; obtain ⟨⟨f20, f21, f22, f23, f24⟩, c20, c21, c22, c23, c24⟩ := p2'.facts))
          refine bodyPost_ret (results_tok rfl _ _ _ _ _ _ _ _ _ rfl (p2.set5 _ _ _ _ _)) rfl ?_
          have e2 := HR.out
          rw [E1.out, HSL.out] at e2
          rw [if_pos rfl] at e2
          injection e2 with e2 e3
          injection e3 with e3 e4
          subst e2; subst e3; subst e4
          exact ⟨_, _, _, _, rfl, (fun h => by cases h), below5 hbW (Nat.le_refl _) _ _ _ _ _⟩
        · have dI : decide (I1 ≥ 0) = true := decide_eq_true (by have := G1.out; rw [hs1] at this; simpa using this)
          have dJ : decide (0 ≤ I1) = true := decide_eq_true (by have := G1.out; rw [hs1] at this; simpa using this)
          have hsl : X.sgnLen S.data.toList = 1 := by
            unfold X.sgnLen
            rw [if_neg (by rw [hg1]; exact fun h => h61 h.2.1), hhd, hs1]; rfl
          have HSL := Lib.hid hsl
          clear hsl hhd
          go_enter Tryd.func35, Tryd.ntmps35
          go_upto_region 1 with (fail)
          rw [← HW.out]
          go_wp2_with (first
            | (go_at_call 30; refine (row_x _ _ (by omega)).mono ?_; rintro e w2 ⟨rfl, rfl⟩; rw [hRL])
            | (go_at_call 34; refine (index_s _ _ _).mono ?_; rintro e w2 ⟨rfl, rfl⟩; rw [hI2])
            | (go_at_call 34; refine (index_s _ _ _).mono ?_; rintro e w2 ⟨rfl, rfl⟩; rw [hI1])
            | (go_at_call 41; refine (clone_s _ (S.extract 0 1) (by rw [ext_size (by omega)]; omega)).mono ?_; rintro e w3 ⟨rfl, hb3⟩; have p2' := p2.below hb3; have hbw := below_on hbW hb3; clear f20 f21 f22 f23 f24 c20 c21 c22 c23 c24; obtain ⟨⟨f20, f21, f22, f23, f24⟩, c20, c21, c22, c23, c24⟩ := p2'.facts))
          refine bodyPost_ret (results_tok rfl _ _ _ _ _ _ _ _ _ rfl (p2'.set5 _ _ _ _ _)) rfl ?_
          have e2 := HR.out
          rw [E1.out, HSL.out] at e2
          rw [if_neg (by decide)] at e2
          injection e2 with e2 e3
          injection e3 with e3 e4
          subst e2; subst e3; subst e4
          exact ⟨_, _, _, _, rfl, (fun _ => ⟨rfl, MagOf.other (by decide)⟩), below5 hbw (Nat.le_refl _) _ _ _ _ _⟩
    · have ds1 : decide ((S.size : Int) > 1) = false := decide_eq_false (by omega)
      have ds2 : decide ((1 : Int) < S.size) = false := decide_eq_false (by omega)
      cases hs1 : X.sgn1 (S[0]'h0)
      · have dI : decide (I1 ≥ 0) = false := decide_eq_false (by have := G1.out; rw [hs1] at this; simp at this; omega)
        have dJ : decide (0 ≤ I1) = false := decide_eq_false (by have := G1.out; rw [hs1] at this; simp at this; omega)
        have hsl : X.sgnLen S.data.toList = 0 := by
          unfold X.sgnLen
          rw [if_neg (by rw [size_list]; exact fun h => hsz h.1), hhd, hs1]; rfl
        have HSL := Lib.hid hsl
        clear hsl hhd
        go_enter Tryd.func35, Tryd.ntmps35
        go_upto_region 1 with (fail)
        rw [← HW.out]
        go_wp2_with (first
          | (go_at_call 30; refine (row_x _ _ (by omega)).mono ?_; rintro e w2 ⟨rfl, rfl⟩; rw [hRL])
          | (go_at_call 34; refine (index_s _ _ _).mono ?_; rintro e w2 ⟨rfl, rfl⟩; rw [hI2])
          | (go_at_call 34; refine (index_s _ _ _).mono ?_; rintro e w2 ⟨rfl, rfl⟩; rw [hI1])
          | (go_at_call 41; refine (clone_s _ (S.extract 0 0) (by rw [ext_size (by omega)]; omega)).mono ?_; rintro e w3 ⟨rfl, hb3⟩; have p2' := p2.below hb3; have hbw := below_on hbW hb3; clear f20 f21 f22 f23 f24 c20 c21 c22 c23 c24; obtain ⟨⟨f20, f21, f22, f23, f24⟩, c20, c21, c22, c23, c24⟩ := p2'.facts))
        refine bodyPost_ret (results_tok rfl _ _ _ _ _ _ _ _ _ rfl (p2.set5 _ _ _ _ _)) rfl ?_
        have e2 := HR.out
        rw [E1.out, HSL.out] at e2
        rw [if_pos rfl] at e2
        injection e2 with e2 e3
        injection e3 with e3 e4
        subst e2; subst e3; subst e4
        exact ⟨_, _, _, _, rfl, (fun h => by cases h), below5 hbW (Nat.le_refl _) _ _ _ _ _⟩
      · have dI : decide (I1 ≥ 0) = true := decide_eq_true (by have := G1.out; rw [hs1] at this; simpa using this)
        have dJ : decide (0 ≤ I1) = true := decide_eq_true (by have := G1.out; rw [hs1] at this; simpa using this)
        have hsl : X.sgnLen S.data.toList = 1 := by
          unfold X.sgnLen
          rw [if_neg (by rw [size_list]; exact fun h => hsz h.1), hhd, hs1]; rfl
        have HSL := Lib.hid hsl
        clear hsl hhd
        go_enter Tryd.func35, Tryd.ntmps35
        go_upto_region 1 with (fail)
        rw [← HW.out]
        go_wp2_with (first
          | (go_at_call 30; refine (row_x _ _ (by omega)).mono ?_; rintro e w2 ⟨rfl, rfl⟩; rw [hRL])
          | (go_at_call 34; refine (index_s _ _ _).mono ?_; rintro e w2 ⟨rfl, rfl⟩; rw [hI2])
          | (go_at_call 34; refine (index_s _ _ _).mono ?_; rintro e w2 ⟨rfl, rfl⟩; rw [hI1])
          | (go_at_call 41; refine (clone_s _ (S.extract 0 1) (by rw [ext_size (by omega)]; omega)).mono ?_; rintro e w3 ⟨rfl, hb3⟩; have p2' := p2.below hb3; have hbw := below_on hbW hb3; clear f20 f21 f22 f23 f24 c20 c21 c22 c23 c24; obtain ⟨⟨f20, f21, f22, f23, f24⟩, c20, c21, c22, c23, c24⟩ := p2'.facts))
        refine bodyPost_ret (results_tok rfl _ _ _ _ _ _ _ _ _ rfl (p2'.set5 _ _ _ _ _)) rfl ?_
        have e2 := HR.out
        rw [E1.out, HSL.out] at e2
        rw [if_neg (by decide)] at e2
        injection e2 with e2 e3
        injection e3 with e3 e4
        subst e2; subst e3; subst e4
        exact ⟨_, _, _, _, rfl, (fun _ => ⟨rfl, MagOf.other (by decide)⟩), below5 hbw (Nat.le_refl _) _ _ _ _ _⟩
end Go.Proofs.YtkioaogpmifgeaaDoor

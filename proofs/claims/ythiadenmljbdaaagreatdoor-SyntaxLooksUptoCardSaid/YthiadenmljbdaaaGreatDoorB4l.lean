/-
  l: the parts LexB LexC LexD.
-/
import Derived.Test.YthiadenmljbdaaaGreatDoorB3l
import Derived.Laws.Rows
import Derived.Deep.Cut
import Derived.Laws.AppendOwn
namespace Go.Proofs.YthiadenmljbdaaaGreatDoor
section
open Go.RowKit
theorem below_on {wk w w' : World} (h : Below wk.heap.size wk w) (hb : Below w.heap.size w w') : Below wk.heap.size wk w' := h.trans (hb.mono h.size)
theorem below_alloc1 (w : World) (o : Obj) : Below w.heap.size w (w.alloc o) := (Below.refl _ _).alloc (Nat.le_refl _) o
def Blk (w : World) (b : Nat) (t : TypeId) (cs : Array Value) : Prop := w.heap[b]? = some (.cells cs t (0, 0))
section
variable {w w' : World} {b b' : Nat} {t : TypeId} {cs : Array Value} {a0 a1 a2 a3 a4 : Value}
theorem Blk.new (w : World) (t : TypeId) (cs : Array Value) : Blk (w.alloc (.cells cs t)) w.heap.size t cs := heap_alloc_new w _
theorem Blk.lt (h : Blk w b t cs) : b < w.heap.size := (Array.getElem?_eq_some_iff.1 h).1
theorem Blk.below (h : Blk w b t cs) (hb : Below w.heap.size w w') : Blk w' b t cs := (hb.block b h.lt).trans h
theorem Blk.keep {B : Nat} (h : Blk w b t cs) (hb : Below B w w') (hlt : b < B) : Blk w' b t cs := (hb.block b hlt).trans h
theorem Blk.free (h : Blk w b t cs) (i : Nat) : w.frozen? ⟨b, i, none⟩ = false := frozen_of_row _ _ _ _ _ h
theorem Blk.cell (h : Blk w b t cs) (i : Nat) : w.cell? ⟨b, i, none⟩ = cs[i]? := cell_of_row _ _ _ _ _ _ h
theorem Blk.far (h : Blk w b t cs) (hne : b ≠ b') (i : Nat) (u : Value) : Blk (w.setCell ⟨b', i, none⟩ u) b t cs := (Below.heap_setCell w ⟨b', i, none⟩ u b hne).trans h
theorem Blk.put (h : Blk w b t cs) (i : Nat) (u : Value) : Blk (w.setCell ⟨b, i, none⟩ u) b t (cs.setIfInBounds i u) := heap_setCell_same _ _ i _ _ u h
theorem Blk.facts (h : Blk w b t #[a0, a1, a2, a3, a4]) : (w.frozen? ⟨b, 0, none⟩ = false ∧ w.frozen? ⟨b, 1, none⟩ = false ∧ w.frozen? ⟨b, 2, none⟩ = false ∧ w.frozen? ⟨b, 3, none⟩ = false ∧ w.frozen? ⟨b, 4, none⟩ = false) ∧
    w.cell? ⟨b, 0, none⟩ = some a0 ∧ w.cell? ⟨b, 1, none⟩ = some a1 ∧ w.cell? ⟨b, 2, none⟩ = some a2 ∧ w.cell? ⟨b, 3, none⟩ = some a3 ∧ w.cell? ⟨b, 4, none⟩ = some a4 :=
  ⟨⟨h.free _, h.free _, h.free _, h.free _, h.free _⟩, h.cell _, h.cell _, h.cell _, h.cell _, h.cell _⟩
theorem Blk.set5 (h : Blk w b t #[a0, a1, a2, a3, a4]) (u0 u1 u2 u3 u4 : Value) : Blk (((((w.setCell ⟨b, 0, none⟩ u0).setCell ⟨b, 1, none⟩ u1).setCell ⟨b, 2, none⟩ u2).setCell ⟨b, 3, none⟩ u3).setCell ⟨b, 4, none⟩ u4) b t #[u0, u1, u2, u3, u4] :=
 ((((h.put 0 u0).put 1 u1).put 2 u2).put 3 u3).put 4 u4
theorem Blk.facts2 (h : Blk w b t #[a0, a1]) : (w.frozen? ⟨b, 0, none⟩ = false ∧ w.frozen? ⟨b, 1, none⟩ = false) ∧ w.cell? ⟨b, 0, none⟩ = some a0 ∧ w.cell? ⟨b, 1, none⟩ = some a1 :=
 ⟨⟨h.free _, h.free _⟩, h.cell _, h.cell _⟩
theorem Blk.set2 (h : Blk w b t #[a0, a1]) (u0 u1 : Value) : Blk ((w.setCell ⟨b, 0, none⟩ u0).setCell ⟨b, 1, none⟩ u1) b t #[u0, u1] := (h.put 0 u0).put 1 u1
end
theorem below5 {B b : Nat} {w w' : World} (h : Below B w w') (hb : B ≤ b) (u0 u1 u2 u3 u4 : Value) : Below B w (((((w'.setCell ⟨b, 0, none⟩ u0).setCell ⟨b, 1, none⟩ u1).setCell ⟨b, 2, none⟩ u2).setCell ⟨b, 3, none⟩ u3).setCell ⟨b, 4, none⟩ u4) :=
 ((((h.setCell hb _).setCell hb _).setCell hb _).setCell hb _).setCell hb _
theorem Own.blk {w : World} {base g n c : Nat} {l : List Nat} (h : Own w base g n c l) : ∃ cur, w.heap[g]? = some (.cells cur 69 (0, 0)) := by
 rcases h.own.2 with ⟨e, _⟩ | ⟨g', cap, cur, e, _, hg, _⟩
 · cases e
 · injection e with e _ _; injection e with e; injection e with e _ _
   subst e
   exact ⟨cur, hg⟩
theorem Own.off {w : World} {base g n c b : Nat} {l : List Nat} {t : TypeId} {cs : Array Value} (h : Own w base g n c l) (hp : Blk w b t cs) (ht : t ≠ 69) : g ≠ b := fun e => by
 subst e
 obtain ⟨cur, hg⟩ := h.blk
 have e2 := hg.symm.trans hp
 injection e2 with e2
 injection e2 with _ e2 _
 exact ht e2.symm
theorem sizeTok : (Tryz.prog.info? 98).map (·.size) = some 5 := by kernel_rfl
theorem sizeMis : (Tryz.prog.info? 31).map (·.size) = some 2 := by kernel_rfl
theorem results_tok {fn : Func} {p u : Tmp} (h : fn.results = #[.cell p 98, .tmp u]) (tmps : Array Value) (w : World) (g : Nat) (t : TypeId) (a0 a1 a2 a3 a4 : Value)
    (hp : tmps.getD p undef = .pointer (some ⟨g, 0, none⟩)) (hg : Blk w g t #[a0, a1, a2, a3, a4]) :
    (results fn tmps).run Tryz.prog w = .ok (.tuple #[.agg #[a0, a1, a2, a3, a4], tmps.getD u undef]) w := by
  have hp' : tmps[p]?.getD undef = .pointer (some ⟨g, 0, none⟩) := by simpa using hp
  simp [results, h, hp', asAddr, run_loadVar_row w g _ 98 _ _ _ hg Tryz.underlying98 rfl sizeTok]
theorem clone_s (w : World) (S : ByteArray) (hS : S.size ≤ 281474976710656) :
    Calls Tryz.prog 142 #[.string S] w fun e w' => e = .returned (.string S) ∧ Below w.heap.size w w' := by
  go_enter Tryz.func142, Tryz.ntmps142
  go_wp2_with (go_at_call 160; refine (Tryz.stringslite_Clone _ _ hS).mono ?_; rintro e w2 ⟨rfl, hb⟩)
  go_ret
  exact ⟨rfl, hb⟩
def MagOf (base : Nat) (w : World) (m : Value) (k : Nat) (l : List UInt8) : Prop := if k = 1 then ∃ g n c, m = .slice (some ⟨g, 0, none⟩) n c ∧ Own w base g n c (N.ofN (N.val l)) else m = .slice none 0 0
theorem MagOf.other {base : Nat} {w : World} {k : Nat} {l : List UInt8} (h : k ≠ 1) : MagOf base w (.slice none 0 0) k l := by unfold MagOf; rw [if_neg h]
theorem MagOf.num {base : Nat} {w : World} {g n c : Nat} {l : List UInt8} (h : Own w base g n c (N.ofN (N.val l))) : MagOf base w (.slice (some ⟨g, 0, none⟩) n c) 1 l := by unfold MagOf; rw [if_pos rfl]; exact ⟨g, n, c, rfl, h⟩
theorem MagOf.below {base : Nat} {w w' : World} {m : Value} {k : Nat} {l : List UInt8} (h : MagOf base w m k l) (hb : Below w.heap.size w w') : MagOf base w' m k l := by
 unfold MagOf at h ⊢
 split
 · rename_i hk
   rw [if_pos hk] at h
   obtain ⟨g, n, c, e, ho⟩ := h
   exact ⟨g, n, c, e, ho.below hb⟩
 · rename_i hk
   rw [if_neg hk] at h
   exact h
theorem MagOf.le {base base' : Nat} {w : World} {m : Value} {k : Nat} {l : List UInt8} (h : MagOf base w m k l) (hb : base' ≤ base) : MagOf base' w m k l := by
 unfold MagOf at h ⊢
 split
 · rename_i hk
   rw [if_pos hk] at h
   obtain ⟨g, n, c, e, ho⟩ := h
   exact ⟨g, n, c, e, ho.mono hb⟩
 · rename_i hk
   rw [if_neg hk] at h
   exact h
theorem MagOf.far {base b : Nat} {w : World} {m : Value} {k : Nat} {l : List UInt8} {t : TypeId} {cs : Array Value} (h : MagOf base w m k l) (hp : Blk w b t cs) (ht : t ≠ 69) (i : Nat) (u : Value) : MagOf base (w.setCell ⟨b, i, none⟩ u) m k l := by
 unfold MagOf at h ⊢
 split
 · rename_i hk
   rw [if_pos hk] at h
   obtain ⟨g, n, c, e, ho⟩ := h
   exact ⟨g, n, c, e, ho.far (ho.off hp ht) i u⟩
 · rename_i hk
   rw [if_neg hk] at h
   exact h
theorem MagOf.five {base b : Nat} {w : World} {m : Value} {k : Nat} {l : List UInt8} {t : TypeId} {cs : Array Value} (h : MagOf base w m k l) (hp : Blk w b t cs) (ht : t ≠ 69) (u0 u1 u2 u3 u4 : Value) :
    MagOf base (((((w.setCell ⟨b, 0, none⟩ u0).setCell ⟨b, 1, none⟩ u1).setCell ⟨b, 2, none⟩ u2).setCell ⟨b, 3, none⟩ u3).setCell ⟨b, 4, none⟩ u4) m k l :=
  ((((h.far hp ht 0 u0).far (hp.put 0 u0) ht 1 u1).far ((hp.put 0 u0).put 1 u1) ht 2 u2).far (((hp.put 0 u0).put 1 u1).put 2 u2) ht 3 u3).far ((((hp.put 0 u0).put 1 u1).put 2 u2).put 3 u3) ht 4 u4
set_option maxRecDepth 100000 in
set_option maxHeartbeats 4000000 in
theorem rowed_x (w : World) (S : ByteArray) (h0 : 0 < S.size) (hS : S.size ≤ 4096) {r1 r2 : Nat} (hR : X.rowed S.data.toList = (r1, r2)) :
    Calls Tryz.prog 141 #[.string S] w fun e w' => ∃ T A n c, e = .returned (.tuple #[.agg #[.int .i64 (r2 : Nat), .string T, .bool false, .slice A n c, .int .i64 0], .int .i64 (r1 : Nat)]) ∧ (r1 = 0 → T = S ∧ MagOf w.heap.size w' (.slice A n c) r2 S.data.toList) ∧ Below w.heap.size w w' := by
  have hhd : S.data.toList.headD 0 = S[0]'h0 := by
   have h1 := getD_byte h0
   cases hh : S.data.toList with
   | nil => have := size_list S; rw [hh] at this; simp only [List.length_nil] at this; omega
   | cons c l => rw [hh] at h1; simpa [List.getD] using h1
  have h0i : (0 : Int) < S.size := by omega
  have p2 := Blk.new w 98 #[.int .i64 0, .string ⟨#[]⟩, .bool false, .slice none 0 0, .int .i64 0]
  obtain ⟨W, hW, hbW⟩ : ∃ W : World, W = w.alloc (.cells #[.int .i64 0, .string ⟨#[]⟩, .bool false, .slice none 0 0, .int .i64 0] 98) ∧ Below w.heap.size w W := ⟨_, rfl, below_alloc1 _ _⟩
  rw [← hW] at p2
  have HW := Lib.hid hW
  clear hW
  have HR := Lib.hid hR
  clear hR
  go_enter Tryz.func141, Tryz.ntmps141
  go_upto_region 1 with (fail)
  rw [← HW.out]
  go_upto_region 3 with (go_at_call 142; refine (clone_s _ S (by omega)).mono ?_; rintro e w1 ⟨rfl, hb1⟩)
  have p4 := Blk.new w1 98 #[.int .i64 0, .string S, .bool false, .slice none 0 0, .int .i64 0]
  obtain ⟨W2, hW2, hb2⟩ : ∃ W2 : World, W2 = w1.alloc (.cells #[.int .i64 0, .string S, .bool false, .slice none 0 0, .int .i64 0] 98) ∧ Below w1.heap.size w1 W2 := ⟨_, rfl, below_alloc1 _ _⟩
  rw [← hW2] at p4 ⊢
  obtain ⟨b4, hb4⟩ : ∃ b, b = w1.heap.size := ⟨_, rfl⟩
  have hlt : w.heap.size < b4 := by have h1 := hb1.size; have h2 := p2.lt; omega
  rw [← hb4] at p4 ⊢
  replace p2 := (p2.below hb1).below hb2
  have hbw := below_on (below_on hbW hb1) hb2
  clear hW2 hb4 hb1 hb2 hbW HW
  cases hd : X.digit (S[0]'h0)
  ·
   obtain ⟨⟨f20, f21, f22, f23, f24⟩, c20, c21, c22, c23, c24⟩ := p2.facts
   obtain ⟨⟨f40, f41, f42, f43, f44⟩, c40, c41, c42, c43, c44⟩ := p4.facts
   cases hw : X.word S.data.toList
   ·
    cases hn : X.name S.data.toList
    ·
     have e1 : X.rowed S.data.toList = (30, 0) := by unfold X.rowed; rw [hhd, hd, hw, hn]; rfl
     have E1 := Lib.hid e1
     clear e1 hhd
     go_wp2_with (first
      | (go_at_call 148; refine (digit_x _ _).mono ?_; rintro e w3 ⟨rfl, rfl⟩; rw [hd])
      | (go_at_call 118; refine (word_x _ _).mono ?_; rintro e w3 ⟨rfl, rfl⟩; rw [hw])
      | (go_at_call 82; refine (isname_x _ _ (by omega)).mono ?_; rintro e w3 ⟨rfl, rfl⟩; rw [hn]))
     refine bodyPost_ret (results_tok rfl _ _ _ _ _ _ _ _ _ rfl (p2.set5 _ _ _ _ _)) rfl ?_
     have e1 := E1.out
     have e2 := HR.out
     rw [e1] at e2
     injection e2 with e2 e3
     subst e2; subst e3
     exact ⟨_, _, _, _, rfl, (fun h => by cases h), below5 (hbw) (Nat.le_refl _) _ _ _ _ _⟩
    ·
     have e1 : X.rowed S.data.toList = (0, 2) := by unfold X.rowed; rw [hhd, hd, hw, hn]; rfl
     have E1 := Lib.hid e1
     clear e1 hhd
     go_wp2_with (first
      | (go_at_call 148; refine (digit_x _ _).mono ?_; rintro e w3 ⟨rfl, rfl⟩; rw [hd])
      | (go_at_call 118; refine (word_x _ _).mono ?_; rintro e w3 ⟨rfl, rfl⟩; rw [hw])
      | (go_at_call 82; refine (isname_x _ _ (by omega)).mono ?_; rintro e w3 ⟨rfl, rfl⟩; rw [hn]))
     refine bodyPost_ret (results_tok rfl _ _ _ _ _ _ _ _ _ rfl ((p2.far (by omega) 0 _).set5 _ _ _ _ _)) rfl ?_
     have e1 := E1.out
     have e2 := HR.out
     rw [e1] at e2
     injection e2 with e2 e3
     subst e2; subst e3
     exact ⟨_, _, _, _, rfl, fun _ => ⟨rfl, MagOf.other (by decide)⟩, below5 (hbw.setCell (by show w.heap.size ≤ b4; omega) _) (Nat.le_refl _) _ _ _ _ _⟩
   ·
    have e1 : X.rowed S.data.toList = (0, 3) := by unfold X.rowed; rw [hhd, hd, hw]; rfl
    have E1 := Lib.hid e1
    clear e1 hhd
    go_wp2_with (first
     | (go_at_call 148; refine (digit_x _ _).mono ?_; rintro e w3 ⟨rfl, rfl⟩; rw [hd])
     | (go_at_call 118; refine (word_x _ _).mono ?_; rintro e w3 ⟨rfl, rfl⟩; rw [hw])
     | (go_at_call 82; refine (isname_x _ _ (by omega)).mono ?_; rintro e w3 ⟨rfl, rfl⟩; rw [hn]))
    refine bodyPost_ret (results_tok rfl _ _ _ _ _ _ _ _ _ rfl ((p2.far (by omega) 0 _).set5 _ _ _ _ _)) rfl ?_
    have e1 := E1.out
    have e2 := HR.out
    rw [e1] at e2
    injection e2 with e2 e3
    subst e2; subst e3
    exact ⟨_, _, _, _, rfl, fun _ => ⟨rfl, MagOf.other (by decide)⟩, below5 (hbw.setCell (by show w.heap.size ≤ b4; omega) _) (Nat.le_refl _) _ _ _ _ _⟩
  ·
   by_cases hok : N.okTxt S.data.toList
   ·
    have e1 : X.rowed S.data.toList = (0, 1) := by unfold X.rowed; rw [hhd, hd, if_pos rfl, if_pos hok]
    have E1 := Lib.hid e1
    clear e1 hhd
    go_wp2_with (first
     | (go_at_call 148; refine (digit_x _ _).mono ?_; rintro e w3 ⟨rfl, rfl⟩; rw [hd])
     | (go_at_call 159; refine (parse_ok _ S (by omega) hok).mono ?_; rintro e w3 ⟨g, n', c', rfl, hown, hb3⟩; replace hown := hown.mono hbw.size; have p2' := p2.below hb3; have p4' := p4.below hb3; replace hbw := below_on hbw hb3; obtain ⟨⟨f20, f21, f22, f23, f24⟩, c20, c21, c22, c23, c24⟩ := p2'.facts; obtain ⟨⟨f40, f41, f42, f43, f44⟩, c40, c41, c42, c43, c44⟩ := p4'.facts))
    have hg4 := hown.off p4' (by decide)
    have hg2 := hown.off p2' (by decide)
    refine bodyPost_ret (results_tok rfl _ _ _ _ _ _ _ _ _ rfl ((((p2'.far (by omega) 0 _).far (by omega) 2 _).far (by omega) 3 _).set5 _ _ _ _ _)) rfl ?_
    have e1 := E1.out
    have e2 := HR.out
    rw [e1] at e2
    injection e2 with e2 e3
    subst e2; subst e3
    exact ⟨_, _, _, _, rfl, (fun _ => ⟨rfl, MagOf.num (((((((((hown.far hg4 0 _).far hg4 2 _).far hg4 3 _).far hg2 0 _).far hg2 1 _).far hg2 2 _).far hg2 3 _).far hg2 4 _))⟩), below5 (((hbw.setCell (by show w.heap.size ≤ b4; omega) _).setCell (by show w.heap.size ≤ b4; omega) _).setCell (by show w.heap.size ≤ b4; omega) _) (Nat.le_refl _) _ _ _ _ _⟩
   ·
    have e1 : X.rowed S.data.toList = (12, 0) := by unfold X.rowed; rw [hhd, hd, if_pos rfl, if_neg hok]
    have E1 := Lib.hid e1
    clear e1 hhd
    go_wp2_with (first
     | (go_at_call 148; refine (digit_x _ _).mono ?_; rintro e w3 ⟨rfl, rfl⟩; rw [hd])
     | (go_at_call 159; refine (parse_bad _ S (by omega) hok).mono ?_; rintro e w3 ⟨rfl, hb3⟩; have p2' := p2.below hb3; replace hbw := below_on hbw hb3; obtain ⟨⟨f20, f21, f22, f23, f24⟩, c20, c21, c22, c23, c24⟩ := p2'.facts))
    refine bodyPost_ret (results_tok rfl _ _ _ _ _ _ _ _ _ rfl (p2'.set5 _ _ _ _ _)) rfl ?_
    have e1 := E1.out
    have e2 := HR.out
    rw [e1] at e2
    injection e2 with e2 e3
    subst e2; subst e3
    exact ⟨_, _, _, _, rfl, (fun h => by cases h), below5 (hbw) (Nat.le_refl _) _ _ _ _ _⟩
theorem idx_mem (l : List UInt8) (c : UInt8) : (0 ≤ Lib.indexByte l c) ↔ c ∈ l := by
 induction l with
 | nil => simp [Lib.indexByte]
 | cons b l ih =>
  unfold Lib.indexByte
  by_cases h : b = c
  · subst h; simp
  ·
   have h1 : (b == c) = false := by simpa using h
   have h2 := Lib.indexByte_ge l c
   rw [h1]
   simp only [Bool.false_eq_true, if_false, List.mem_cons]
   by_cases h3 : Lib.indexByte l c = -1
   · rw [h3]; rw [h3] at ih; simp; simp at ih; exact ⟨fun e => h e.symm, ih⟩
   · rw [if_neg (by simpa using h3)]
     exact ⟨fun _ => .inr (ih.1 (by omega)), fun h4 => by rcases h4 with h4 | h4; exact absurd h4.symm h; have := ih.2 h4; omega⟩
theorem index_s (w : World) (S : ByteArray) (c : UInt8) :
    Calls Tryz.prog 105 #[.string S, .int .u8 (c.toNat : Nat)] w fun e w' => e = .returned (.int .i64 (Lib.indexByte S.data.toList c)) ∧ w = w' := by
  refine (Tryz.strings_IndexByte S (c.toNat : Nat) w).mono ?_
  rintro e w' ⟨rfl, rfl⟩
  exact ⟨by simp, rfl⟩
theorem sgn2_idx (c : UInt8) : (0 ≤ Lib.indexByte (⟨#[60, 62, 33]⟩ : ByteArray).data.toList c) ↔ X.sgn2 c = true := by
 rw [idx_mem]; unfold X.sgn2; simp [or_assoc]
theorem sgn1_idx (c : UInt8) : (0 ≤ Lib.indexByte (⟨#[60, 62, 61, 43, 45, 42, 46, 40, 41]⟩ : ByteArray).data.toList c) ↔ X.sgn1 c = true := by
 rw [idx_mem]; unfold X.sgn1; simp
set_option maxRecDepth 100000 in
set_option maxHeartbeats 4000000 in
theorem one_x (w : World) (S : ByteArray) (h0 : 0 < S.size) (hS : S.size ≤ 4096) {r1 r2 r3 : Nat} (hR : X.one S.data.toList = (r1, r2, r3)) :
    Calls Tryz.prog 106 #[.string S] w fun e w' => ∃ T A n c, e = .returned (.tuple #[.agg #[.int .i64 (r2 : Nat), .string T, .bool false, .slice A n c, .int .i64 0], .int .i64 (r1 : Nat)]) ∧ (r1 = 0 → T = S.extract 0 r3 ∧ MagOf w.heap.size w' (.slice A n c) r2 T.data.toList) ∧ Below w.heap.size w w' := by
  have hhd : S.data.toList.headD 0 = S[0]'h0 := by
   have h1 := getD_byte h0
   cases hh : S.data.toList with
   | nil => have := size_list S; rw [hh] at this; simp only [List.length_nil] at this; omega
   | cons c l => rw [hh] at h1; simpa [List.getD] using h1
  have h0i : (0 : Int) < S.size := by omega
  have hSi : (S.size : Int) ≤ 4096 := by omega
  have p2 := Blk.new w 98 #[.int .i64 0, .string ⟨#[]⟩, .bool false, .slice none 0 0, .int .i64 0]
  obtain ⟨W, hW, hbW⟩ : ∃ W : World, W = w.alloc (.cells #[.int .i64 0, .string ⟨#[]⟩, .bool false, .slice none 0 0, .int .i64 0] 98) ∧ Below w.heap.size w W := ⟨_, rfl, below_alloc1 _ _⟩
  rw [← hW] at p2
  have HW := Lib.hid hW
  clear hW
  have HR := Lib.hid hR
  clear hR
  obtain ⟨R, hRL⟩ : ∃ R, X.rowLen S.data.toList = R := ⟨_, rfl⟩
  have hRle : R ≤ S.size := by rw [← hRL, ← size_list]; exact X.rowLen_le _
  obtain ⟨⟨f20, f21, f22, f23, f24⟩, c20, c21, c22, c23, c24⟩ := p2.facts
  by_cases hR0 : 0 < R
  ·
   have hR0i : (0 : Int) < R := by omega
   have hRi : (R : Int) ≤ S.size := by omega
   have d1 : decide ((R : Int) > 0) = true := decide_eq_true (by omega)
   have d2 : decide ((0 : Int) < R) = true := decide_eq_true (by omega)
   have hT : (S.extract 0 R).data.toList = S.data.toList.take R := ext_list
   have hTs : (S.extract 0 R).size = R := ext_size hRle
   obtain ⟨q1, q2, hq⟩ : ∃ q1 q2, X.rowed (S.extract 0 R).data.toList = (q1, q2) := ⟨_, _, rfl⟩
   have e1 : X.one S.data.toList = (q1, q2, R) := by unfold X.one; rw [hRL, if_pos hR0, ← hT, hq]
   have HQ := Lib.hid hq
   have E1 := Lib.hid e1
   have HTS := Lib.hid hTs
   clear e1 hT hTs hhd hq f20 f21 f22 f23 f24 c20 c21 c22 c23 c24
   go_enter Tryz.func106, Tryz.ntmps106
   go_upto_region 1 with (fail)
   rw [← HW.out]
   go_wp2_with (first
    | (go_at_call 117; refine (row_x _ _ (by omega)).mono ?_; rintro e w2 ⟨rfl, rfl⟩; rw [hRL])
    | (go_at_call 141; refine (rowed_x _ (S.extract 0 R) (by rw [HTS.out]; exact hR0) (by rw [HTS.out]; omega) HQ.out).mono ?_; rintro e w3 ⟨T, A, n, c, rfl, hok, hb3⟩; have p2' := p2.below hb3; have hbw := below_on hbW hb3; have hm := Lib.hid hok; clear hok; obtain ⟨⟨f20, f21, f22, f23, f24⟩, c20, c21, c22, c23, c24⟩ := p2'.facts))
   refine bodyPost_ret (results_tok rfl _ _ _ _ _ _ _ _ _ rfl (p2'.set5 _ _ _ _ _)) rfl ?_
   have e2 := HR.out
   rw [E1.out] at e2
   injection e2 with e2 e3
   injection e3 with e3 e4
   subst e2; subst e3; subst e4
   refine ⟨T, A, n, c, rfl, (fun h => ?_), below5 hbw (Nat.le_refl _) _ _ _ _ _⟩
   obtain ⟨h1, h2⟩ := hm.out h
   subst h1
   exact ⟨rfl, (h2.le hbW.size).five p2' (by decide) _ _ _ _ _⟩
  ·
   obtain rfl : R = 0 := by omega
   have e1 : X.one S.data.toList = if X.sgnLen S.data.toList = 0 then (30, 0, 0) else (0, 4, X.sgnLen S.data.toList) := by unfold X.one; rw [hRL]; rfl
   have E1 := Lib.hid e1
   clear e1 hRle hR0
   obtain ⟨I1, hI1⟩ : ∃ I, Lib.indexByte (⟨#[60, 62, 61, 43, 45, 42, 46, 40, 41]⟩ : ByteArray).data.toList (S[0]'h0) = I := ⟨_, rfl⟩
   obtain ⟨I2, hI2⟩ : ∃ I, Lib.indexByte (⟨#[60, 62, 33]⟩ : ByteArray).data.toList (S[0]'h0) = I := ⟨_, rfl⟩
   have g1 := sgn1_idx (S[0]'h0)
   have g2 := sgn2_idx (S[0]'h0)
   rw [hI1] at g1
   rw [hI2] at g2
   have G1 := Lib.hid g1
   have G2 := Lib.hid g2
   clear g1 g2
   by_cases hsz : 1 < S.size
   ·
    have hszi : (1 : Int) < S.size := by omega
    have ds1 : decide ((S.size : Int) > 1) = true := decide_eq_true (by omega)
    have ds2 : decide ((1 : Int) < S.size) = true := decide_eq_true (by omega)
    have hg1 : S.data.toList.getD 1 0 = S[1]'hsz := getD_byte hsz
    by_cases h61 : (S[1]'hsz) = 61
    ·
     have d61 : (((S[1]'hsz).toNat : Int) == 61) = true := by rw [h61]; rfl
     cases hs2 : X.sgn2 (S[0]'h0)
     ·
      have dK : decide (I2 ≥ 0) = false := decide_eq_false (by have := G2.out; rw [hs2] at this; simp at this; omega)
      have dL : decide (0 ≤ I2) = false := decide_eq_false (by have := G2.out; rw [hs2] at this; simp at this; omega)
      cases hs1 : X.sgn1 (S[0]'h0)
      ·
       have dI : decide (I1 ≥ 0) = false := decide_eq_false (by have := G1.out; rw [hs1] at this; simp at this; omega)
       have dJ : decide (0 ≤ I1) = false := decide_eq_false (by have := G1.out; rw [hs1] at this; simp at this; omega)
       have hsl : X.sgnLen S.data.toList = 0 := by
        unfold X.sgnLen
        rw [if_neg (by rw [hhd, hs2]; simp), hhd, hs1]; rfl
       have HSL := Lib.hid hsl
       clear hsl hhd
       go_enter Tryz.func106, Tryz.ntmps106
       go_upto_region 1 with (fail)
       rw [← HW.out]
       go_wp2_with (first
        | (go_at_call 117; refine (row_x _ _ (by omega)).mono ?_; rintro e w2 ⟨rfl, rfl⟩; rw [hRL])
        | (go_at_call 105; refine (index_s _ _ _).mono ?_; rintro e w2 ⟨rfl, rfl⟩; rw [hI2])
        | (go_at_call 105; refine (index_s _ _ _).mono ?_; rintro e w2 ⟨rfl, rfl⟩; rw [hI1])
        | (go_at_call 142; refine (clone_s _ (S.extract 0 0) (by rw [ext_size (by omega)]; omega)).mono ?_; rintro e w3 ⟨rfl, hb3⟩; have p2' := p2.below hb3; have hbw := below_on hbW hb3; clear f20 f21 f22 f23 f24 c20 c21 c22 c23 c24; obtain ⟨⟨f20, f21, f22, f23, f24⟩, c20, c21, c22, c23, c24⟩ := p2'.facts))
       refine bodyPost_ret (results_tok rfl _ _ _ _ _ _ _ _ _ rfl (p2.set5 _ _ _ _ _)) rfl ?_
       have e2 := HR.out
       rw [E1.out, HSL.out] at e2
       rw [if_pos rfl] at e2
       injection e2 with e2 e3
       injection e3 with e3 e4
       subst e2; subst e3; subst e4
       exact ⟨_, _, _, _, rfl, (fun h => by cases h), below5 hbW (Nat.le_refl _) _ _ _ _ _⟩
      ·
       have dI : decide (I1 ≥ 0) = true := decide_eq_true (by have := G1.out; rw [hs1] at this; simpa using this)
       have dJ : decide (0 ≤ I1) = true := decide_eq_true (by have := G1.out; rw [hs1] at this; simpa using this)
       have hsl : X.sgnLen S.data.toList = 1 := by
        unfold X.sgnLen
        rw [if_neg (by rw [hhd, hs2]; simp), hhd, hs1]; rfl
       have HSL := Lib.hid hsl
       clear hsl hhd
       go_enter Tryz.func106, Tryz.ntmps106
       go_upto_region 1 with (fail)
       rw [← HW.out]
       go_wp2_with (first
        | (go_at_call 117; refine (row_x _ _ (by omega)).mono ?_; rintro e w2 ⟨rfl, rfl⟩; rw [hRL])
        | (go_at_call 105; refine (index_s _ _ _).mono ?_; rintro e w2 ⟨rfl, rfl⟩; rw [hI2])
        | (go_at_call 105; refine (index_s _ _ _).mono ?_; rintro e w2 ⟨rfl, rfl⟩; rw [hI1])
        | (go_at_call 142; refine (clone_s _ (S.extract 0 1) (by rw [ext_size (by omega)]; omega)).mono ?_; rintro e w3 ⟨rfl, hb3⟩; have p2' := p2.below hb3; have hbw := below_on hbW hb3; clear f20 f21 f22 f23 f24 c20 c21 c22 c23 c24; obtain ⟨⟨f20, f21, f22, f23, f24⟩, c20, c21, c22, c23, c24⟩ := p2'.facts))
       refine bodyPost_ret (results_tok rfl _ _ _ _ _ _ _ _ _ rfl (p2'.set5 _ _ _ _ _)) rfl ?_
       have e2 := HR.out
       rw [E1.out, HSL.out] at e2
       rw [if_neg (by decide)] at e2
       injection e2 with e2 e3
       injection e3 with e3 e4
       subst e2; subst e3; subst e4
       exact ⟨_, _, _, _, rfl, (fun _ => ⟨rfl, MagOf.other (by decide)⟩), below5 hbw (Nat.le_refl _) _ _ _ _ _⟩
     ·
      have dK : decide (I2 ≥ 0) = true := decide_eq_true (by have := G2.out; rw [hs2] at this; simpa using this)
      have dL : decide (0 ≤ I2) = true := decide_eq_true (by have := G2.out; rw [hs2] at this; simpa using this)
      have hsl : X.sgnLen S.data.toList = 2 := by
       unfold X.sgnLen
       rw [if_pos (by rw [hhd, hs2, hg1, size_list]; exact ⟨hsz, h61, rfl⟩)]
      have HSL := Lib.hid hsl
      clear hsl hhd
      go_enter Tryz.func106, Tryz.ntmps106
      go_upto_region 1 with (fail)
      rw [← HW.out]
      go_wp2_with (first
       | (go_at_call 117; refine (row_x _ _ (by omega)).mono ?_; rintro e w2 ⟨rfl, rfl⟩; rw [hRL])
       | (go_at_call 105; refine (index_s _ _ _).mono ?_; rintro e w2 ⟨rfl, rfl⟩; rw [hI2])
       | (go_at_call 105; refine (index_s _ _ _).mono ?_; rintro e w2 ⟨rfl, rfl⟩; rw [hI1])
       | (go_at_call 142; refine (clone_s _ (S.extract 0 2) (by rw [ext_size (by omega)]; omega)).mono ?_; rintro e w3 ⟨rfl, hb3⟩; have p2' := p2.below hb3; have hbw := below_on hbW hb3; clear f20 f21 f22 f23 f24 c20 c21 c22 c23 c24; obtain ⟨⟨f20, f21, f22, f23, f24⟩, c20, c21, c22, c23, c24⟩ := p2'.facts))
      refine bodyPost_ret (results_tok rfl _ _ _ _ _ _ _ _ _ rfl (p2'.set5 _ _ _ _ _)) rfl ?_
      have e2 := HR.out
      rw [E1.out, HSL.out] at e2
      rw [if_neg (by decide)] at e2
      injection e2 with e2 e3
      injection e3 with e3 e4
      subst e2; subst e3; subst e4
      exact ⟨_, _, _, _, rfl, (fun _ => ⟨rfl, MagOf.other (by decide)⟩), below5 hbw (Nat.le_refl _) _ _ _ _ _⟩
    ·
     have d61 : (((S[1]'hsz).toNat : Int) == 61) = false := by
      have h1 : (S[1]'hsz).toNat ≠ 61 := fun e => h61 (UInt8.toNat_inj.1 e)
      simp; omega
     cases hs1 : X.sgn1 (S[0]'h0)
     ·
      have dI : decide (I1 ≥ 0) = false := decide_eq_false (by have := G1.out; rw [hs1] at this; simp at this; omega)
      have dJ : decide (0 ≤ I1) = false := decide_eq_false (by have := G1.out; rw [hs1] at this; simp at this; omega)
      have hsl : X.sgnLen S.data.toList = 0 := by
       unfold X.sgnLen
       rw [if_neg (by rw [hg1]; exact fun h => h61 h.2.1), hhd, hs1]; rfl
      have HSL := Lib.hid hsl
      clear hsl hhd
      go_enter Tryz.func106, Tryz.ntmps106
      go_upto_region 1 with (fail)
      rw [← HW.out]
      go_wp2_with (first
       | (go_at_call 117; refine (row_x _ _ (by omega)).mono ?_; rintro e w2 ⟨rfl, rfl⟩; rw [hRL])
       | (go_at_call 105; refine (index_s _ _ _).mono ?_; rintro e w2 ⟨rfl, rfl⟩; rw [hI2])
       | (go_at_call 105; refine (index_s _ _ _).mono ?_; rintro e w2 ⟨rfl, rfl⟩; rw [hI1])
       | (go_at_call 142; refine (clone_s _ (S.extract 0 0) (by rw [ext_size (by omega)]; omega)).mono ?_; rintro e w3 ⟨rfl, hb3⟩; have p2' := p2.below hb3; have hbw := below_on hbW hb3; clear f20 f21 f22 f23 f24 c20 c21 c22 c23 c24; obtain ⟨⟨f20, f21, f22, f23, f24⟩, c20, c21, c22, c23, c24⟩ := p2'.facts))
      refine bodyPost_ret (results_tok rfl _ _ _ _ _ _ _ _ _ rfl (p2.set5 _ _ _ _ _)) rfl ?_
      have e2 := HR.out
      rw [E1.out, HSL.out] at e2
      rw [if_pos rfl] at e2
      injection e2 with e2 e3
      injection e3 with e3 e4
      subst e2; subst e3; subst e4
      exact ⟨_, _, _, _, rfl, (fun h => by cases h), below5 hbW (Nat.le_refl _) _ _ _ _ _⟩
     ·
      have dI : decide (I1 ≥ 0) = true := decide_eq_true (by have := G1.out; rw [hs1] at this; simpa using this)
      have dJ : decide (0 ≤ I1) = true := decide_eq_true (by have := G1.out; rw [hs1] at this; simpa using this)
      have hsl : X.sgnLen S.data.toList = 1 := by
       unfold X.sgnLen
       rw [if_neg (by rw [hg1]; exact fun h => h61 h.2.1), hhd, hs1]; rfl
      have HSL := Lib.hid hsl
      clear hsl hhd
      go_enter Tryz.func106, Tryz.ntmps106
      go_upto_region 1 with (fail)
      rw [← HW.out]
      go_wp2_with (first
       | (go_at_call 117; refine (row_x _ _ (by omega)).mono ?_; rintro e w2 ⟨rfl, rfl⟩; rw [hRL])
       | (go_at_call 105; refine (index_s _ _ _).mono ?_; rintro e w2 ⟨rfl, rfl⟩; rw [hI2])
       | (go_at_call 105; refine (index_s _ _ _).mono ?_; rintro e w2 ⟨rfl, rfl⟩; rw [hI1])
       | (go_at_call 142; refine (clone_s _ (S.extract 0 1) (by rw [ext_size (by omega)]; omega)).mono ?_; rintro e w3 ⟨rfl, hb3⟩; have p2' := p2.below hb3; have hbw := below_on hbW hb3; clear f20 f21 f22 f23 f24 c20 c21 c22 c23 c24; obtain ⟨⟨f20, f21, f22, f23, f24⟩, c20, c21, c22, c23, c24⟩ := p2'.facts))
      refine bodyPost_ret (results_tok rfl _ _ _ _ _ _ _ _ _ rfl (p2'.set5 _ _ _ _ _)) rfl ?_
      have e2 := HR.out
      rw [E1.out, HSL.out] at e2
      rw [if_neg (by decide)] at e2
      injection e2 with e2 e3
      injection e3 with e3 e4
      subst e2; subst e3; subst e4
      exact ⟨_, _, _, _, rfl, (fun _ => ⟨rfl, MagOf.other (by decide)⟩), below5 hbw (Nat.le_refl _) _ _ _ _ _⟩
   ·
    have ds1 : decide ((S.size : Int) > 1) = false := decide_eq_false (by omega)
    have ds2 : decide ((1 : Int) < S.size) = false := decide_eq_false (by omega)
    cases hs1 : X.sgn1 (S[0]'h0)
    ·
     have dI : decide (I1 ≥ 0) = false := decide_eq_false (by have := G1.out; rw [hs1] at this; simp at this; omega)
     have dJ : decide (0 ≤ I1) = false := decide_eq_false (by have := G1.out; rw [hs1] at this; simp at this; omega)
     have hsl : X.sgnLen S.data.toList = 0 := by
      unfold X.sgnLen
      rw [if_neg (by rw [size_list]; exact fun h => hsz h.1), hhd, hs1]; rfl
     have HSL := Lib.hid hsl
     clear hsl hhd
     go_enter Tryz.func106, Tryz.ntmps106
     go_upto_region 1 with (fail)
     rw [← HW.out]
     go_wp2_with (first
      | (go_at_call 117; refine (row_x _ _ (by omega)).mono ?_; rintro e w2 ⟨rfl, rfl⟩; rw [hRL])
      | (go_at_call 105; refine (index_s _ _ _).mono ?_; rintro e w2 ⟨rfl, rfl⟩; rw [hI2])
      | (go_at_call 105; refine (index_s _ _ _).mono ?_; rintro e w2 ⟨rfl, rfl⟩; rw [hI1])
      | (go_at_call 142; refine (clone_s _ (S.extract 0 0) (by rw [ext_size (by omega)]; omega)).mono ?_; rintro e w3 ⟨rfl, hb3⟩; have p2' := p2.below hb3; have hbw := below_on hbW hb3; clear f20 f21 f22 f23 f24 c20 c21 c22 c23 c24; obtain ⟨⟨f20, f21, f22, f23, f24⟩, c20, c21, c22, c23, c24⟩ := p2'.facts))
     refine bodyPost_ret (results_tok rfl _ _ _ _ _ _ _ _ _ rfl (p2.set5 _ _ _ _ _)) rfl ?_
     have e2 := HR.out
     rw [E1.out, HSL.out] at e2
     rw [if_pos rfl] at e2
     injection e2 with e2 e3
     injection e3 with e3 e4
     subst e2; subst e3; subst e4
     exact ⟨_, _, _, _, rfl, (fun h => by cases h), below5 hbW (Nat.le_refl _) _ _ _ _ _⟩
    ·
     have dI : decide (I1 ≥ 0) = true := decide_eq_true (by have := G1.out; rw [hs1] at this; simpa using this)
     have dJ : decide (0 ≤ I1) = true := decide_eq_true (by have := G1.out; rw [hs1] at this; simpa using this)
     have hsl : X.sgnLen S.data.toList = 1 := by
      unfold X.sgnLen
      rw [if_neg (by rw [size_list]; exact fun h => hsz h.1), hhd, hs1]; rfl
     have HSL := Lib.hid hsl
     clear hsl hhd
     go_enter Tryz.func106, Tryz.ntmps106
     go_upto_region 1 with (fail)
     rw [← HW.out]
     go_wp2_with (first
      | (go_at_call 117; refine (row_x _ _ (by omega)).mono ?_; rintro e w2 ⟨rfl, rfl⟩; rw [hRL])
      | (go_at_call 105; refine (index_s _ _ _).mono ?_; rintro e w2 ⟨rfl, rfl⟩; rw [hI2])
      | (go_at_call 105; refine (index_s _ _ _).mono ?_; rintro e w2 ⟨rfl, rfl⟩; rw [hI1])
      | (go_at_call 142; refine (clone_s _ (S.extract 0 1) (by rw [ext_size (by omega)]; omega)).mono ?_; rintro e w3 ⟨rfl, hb3⟩; have p2' := p2.below hb3; have hbw := below_on hbW hb3; clear f20 f21 f22 f23 f24 c20 c21 c22 c23 c24; obtain ⟨⟨f20, f21, f22, f23, f24⟩, c20, c21, c22, c23, c24⟩ := p2'.facts))
     refine bodyPost_ret (results_tok rfl _ _ _ _ _ _ _ _ _ rfl (p2'.set5 _ _ _ _ _)) rfl ?_
     have e2 := HR.out
     rw [E1.out, HSL.out] at e2
     rw [if_neg (by decide)] at e2
     injection e2 with e2 e3
     injection e3 with e3 e4
     subst e2; subst e3; subst e4
     exact ⟨_, _, _, _, rfl, (fun _ => ⟨rfl, MagOf.other (by decide)⟩), below5 hbw (Nat.le_refl _) _ _ _ _ _⟩
end
section
open Go.RowKit
theorem info_tok : (Tryz.prog.info? 98).map (fun i => (i.zero, i.size, i.bytes)) = some (some (.agg #[.int .i64 0, .string ⟨#[]⟩, .bool false, .slice none 0 0, .int .i64 0]), 5, 64) := by kernel_rfl
abbrev Tk := Nat × ByteArray × Value × Nat
def tk (r : Tk) : List Value := [.int .i64 (r.1 : Nat), .string r.2.1, .bool false, r.2.2.1, .int .i64 (r.2.2.2 : Nat)]
def tk0 : Tk := (0, ⟨#[]⟩, .slice none 0 0, 0)
def tcs (rs : List Tk) : List Value := rs.flatMap tk
def tz5 : Array Value := #[.int .i64 0, .string ⟨#[]⟩, .bool false, .slice none 0 0, .int .i64 0]
def zs (k : Nat) : List Value := (Builtin.zeroCells tz5 k).toList
theorem tcs_length (rs : List Tk) : (tcs rs).length = rs.length * 5 := by
 induction rs with
 | nil => rfl
 | cons r rs ih => simp only [tcs, List.flatMap_cons, List.length_append, tk, List.length_cons, List.length_nil] at ih ⊢; omega
theorem tcs_append (a b : List Tk) : tcs (a ++ b) = tcs a ++ tcs b := by simp [tcs]
theorem tcs_get (rs : List Tk) (i j : Nat) (h : i < rs.length) (hj : j < 5) : (tcs rs)[i * 5 + j]? = (tk (rs.getD i tk0))[j]? := by
 induction rs generalizing i with
 | nil => simp at h
 | cons r rs ih =>
  have e : tcs (r :: rs) = tk r ++ tcs rs := rfl
  have hl : (tk r).length = 5 := rfl
  cases i with
  | zero => rw [e, List.getElem?_append_left (by rw [hl]; omega)]; simp [List.getD]
  | succ i =>
   rw [e, List.getElem?_append_right (by rw [hl]; omega), hl, show (i + 1) * 5 + j - 5 = i * 5 + j by omega, ih i (by simpa using h)]
   simp [List.getD]
theorem zs_length (k : Nat) : (zs k).length = k * 5 := by simp [zs, Builtin.zeroCells, tz5]
theorem zs_get (k j : Nat) (h : j < k * 5) : (zs k)[j]? = some (tz5[j % 5]!) := by
 simp [zs, Builtin.zeroCells, tz5, h]
theorem zs_drop (k : Nat) : (zs (k + 1)).drop 5 = zs k := by
 apply List.ext_getElem?
 intro j
 rw [List.getElem?_drop]
 rcases Nat.lt_or_ge j (k * 5) with h | h
 · rw [zs_get _ _ (by omega), zs_get _ _ h, show (5 + j) % 5 = j % 5 by omega]
 · rw [List.getElem?_eq_none (by rw [zs_length]; omega), List.getElem?_eq_none (by rw [zs_length]; omega)]
def OutT (w : World) (base : Nat) (v : Value) (rs : List Tk) : Prop := (v = .slice none 0 0 ∧ rs = []) ∨
 ∃ g cap cur, v = .slice (some ⟨g, 0, none⟩) rs.length cap ∧ base ≤ g ∧ w.heap[g]? = some (.cells cur 98 (0, 0)) ∧ rs.length ≤ cap ∧ cap ≤ maxLen ∧ cur.toList = tcs rs ++ zs (cap - rs.length)
section
variable {w w' : World} {base : Nat} {v : Value} {rs : List Tk}
theorem OutT.nil (w : World) (base : Nat) : OutT w base (.slice none 0 0) [] := .inl ⟨rfl, rfl⟩
theorem OutT.kept (h : OutT w base v rs) {row : Option Nat} (hg : w.grownBy w' row) (hne : v.ownBlock = none ∨ v.ownBlock ≠ row) : OutT w' base v rs := by
 rcases h with h | ⟨g, cap, cur, rfl, h1, h2, h3⟩
 · exact .inl h
 · refine .inr ⟨g, cap, cur, rfl, h1, (hg.block g (Array.getElem?_eq_some_iff.1 h2).1 ?_).trans h2, h3⟩
   rcases hne with hne | hne
   · cases hne
   · exact hne
theorem OutT.below (h : OutT w base v rs) (hb : Below w.heap.size w w') : OutT w' base v rs := h.kept (gb_of_below hb none) (by cases v.ownBlock <;> simp)
theorem OutT.le (h : OutT w base v rs) {base' : Nat} (hb : base' ≤ base) : OutT w base' v rs := by
 rcases h with h | ⟨g, cap, cur, rfl, h1, h2⟩
 · exact .inl h
 · exact .inr ⟨g, cap, cur, rfl, Nat.le_trans hb h1, h2⟩
theorem OutT.size {g cap : Nat} {cur : Array Value} (hc : cur.toList = tcs rs ++ zs (cap - rs.length)) (hle : rs.length ≤ cap) (_ : w.heap[g]? = some (.cells cur 98 (0, 0))) : cur.size = cap * 5 := by
 have := congrArg List.length hc
 rw [List.length_append, tcs_length, zs_length, Array.length_toList] at this
 omega
theorem OutT.cells (h : OutT w base v rs) (hn : 0 < rs.length) : ∃ g cap, v = .slice (some ⟨g, 0, none⟩) rs.length cap ∧ ∀ i, i < rs.length → ∀ j, j < 5 → w.cell? ⟨g, i * 5 + j, none⟩ = (tk (rs.getD i tk0))[j]? := by
 rcases h with ⟨_, h⟩ | ⟨g, cap, cur, rfl, h1, h2, h3, h4, h5⟩
 · rw [h] at hn; exact absurd hn (by simp)
 · refine ⟨g, cap, rfl, fun i hi j hj => ?_⟩
   rw [cell_of_row _ _ _ _ _ _ h2, ← Array.getElem?_toList, h5, List.getElem?_append_left (by rw [tcs_length]; omega), tcs_get _ _ _ hi hj]
theorem OutT.slice (h : OutT w base v rs) : ∃ A c, v = .slice A rs.length c := by
 rcases h with ⟨rfl, rfl⟩ | ⟨g, cap, cur, rfl, _⟩
 · exact ⟨none, 0, rfl⟩
 · exact ⟨_, _, rfl⟩
end
theorem tk_one {r : Tk} (h : r.2.2.1.oneCell' = true) : ∀ u ∈ tk r, u.oneCell' = true := by
 intro u hu
 simp only [tk, List.mem_cons, List.not_mem_nil, or_false] at hu
 rcases hu with rfl | rfl | rfl | rfl | rfl
 all_goals first | exact h | rfl
theorem wpList_append_tok {P : Program} (w : World) {ops : Array Oper} {rest : List Oper} {o : Oper} {a : Act} {Q : Exit → Act → World → Prop} (hgd : o.guard = none) (s x : Operand) (t : TypeId)
    (ho : o.op = .call { callee := .builtin .append, args := #[s, x], argTypes := #[t, t] })
    (base : Nat) (i : TypeInfo) (ht : P.underlying t = some (.slice 98)) (hi : P.info? 98 = some i) (hz : i.zero = some (.agg #[.int .i64 0, .string ⟨#[]⟩, .bool false, .slice none 0 0, .int .i64 0])) (hsize : i.size = 5) (hby : i.bytes = 64)
    (v : Value) (rs : List Tk) (hs : a.eval s = v) (hown : OutT w base v rs)
    (g c : Nat) (r : Tk) (hx : a.eval x = .slice (some ⟨g, 0, none⟩) 1 c) (hc : ∀ j u, (tk r)[j]? = some u → w.cell? ⟨g, j, none⟩ = some u) (h1 : r.2.2.1.oneCell' = true)
    (hb : rs.length < 1048576) (hbase : base ≤ w.heap.size)
    (h : ∀ g' cap w', OutT w' base (.slice (some ⟨g', 0, none⟩) (rs.length + 1) cap) (rs ++ [r]) → w.grownBy w' v.ownBlock → (v.ownBlock = some g' ∨ w.heap.size ≤ g') → wpList P ops Q rest (a.put o.dst (.slice (some ⟨g', 0, none⟩) (rs.length + 1) cap)) w') : wpList P ops Q (o :: rest) a w := by
  refine wpList_plain hgd fun K hK => ?_
  have hone := tk_one h1
  have hnews : ∀ j u, (tk r)[j]? = some u → w.cell? ((⟨g, 0, none⟩ : Addr).add j) = some u := fun j u hu => by rw [Addr.add_lit, Nat.zero_add]; exact hc j u hu
  have key : ∃ g' cap w', (Builtin.append_ #[t, t] o.type #[v, .slice (some ⟨g, 0, none⟩) 1 c]).run P w = .ok (.slice (some ⟨g', 0, none⟩) (rs.length + 1) cap) w' ∧ OutT w' base (.slice (some ⟨g', 0, none⟩) (rs.length + 1) cap) (rs ++ [r]) ∧ w.grownBy w' v.ownBlock ∧ (v.ownBlock = some g' ∨ w.heap.size ≤ g') := by
   have hzc : ∀ k, (Builtin.zeroCells (Value.cells (.agg #[.int .i64 0, .string ⟨#[]⟩, .bool false, .slice none 0 0, .int .i64 0])) k).toList = zs k := fun k => rfl
   rcases hown with ⟨rfl, rfl⟩ | ⟨g0, cap, cur, rfl, a1, a2, a3, a4, a5⟩
   · have hrn := run_append_nil (P := P) (w := w) t o.type 98 i _ ht hi hz ⟨g, 0, none⟩ 1 c (tk r) (by rw [hsize]; rfl) hnews (by omega) (by omega) (by rw [hby]; omega)
     refine ⟨_, _, _, hrn, .inr ⟨_, _, _, rfl, hbase, heap_alloc_new w.drew _, grownCap_ge w 1 0 _, grownCap_le_maxLen w 1 0 _ (by unfold maxLen; omega), ?_⟩, ⟨rfl, rfl, rfl, by simp, fun k hk _ => heap_alloc_old w.drew _ hk⟩, .inr (Nat.le_refl _)⟩
     rw [Array.toList_append, hzc]
     simp [tcs]
   ·
    by_cases hroom : rs.length + 1 ≤ cap
    · have hcs := OutT.size (w := w) a5 a3 a2
      have hrn := run_append_room (P := P) w t o.type 98 i ht hi g0 rs.length cap cur a2 ⟨g, 0, none⟩ 1 c (tk r) (by rw [hsize]; rfl) hnews hone hroom (by rw [hsize, hcs, show (tk r).length = 5 from rfl]; omega)
      refine ⟨_, _, _, hrn, .inr ⟨g0, cap, _, by rw [List.length_append]; rfl, a1, setRow_heap _ _ _ _ _ _ a2, by rw [List.length_append]; exact hroom, a4, ?_⟩, ⟨rfl, rfl, rfl, by simp, fun k _ hk => setRow_other w g0 k _ (fun e => hk (by simp [Value.ownBlock, e]))⟩, .inl rfl⟩
      rw [List.toList_toArray, a5, hsize, show (tk r).length = 5 from rfl, List.take_append_of_le_length (by rw [tcs_length]; omega), List.take_of_length_le (by rw [tcs_length]; omega), List.drop_append, tcs_append]
      rw [List.drop_of_length_le (by rw [tcs_length]; omega), tcs_length, show rs.length * 5 + 5 - rs.length * 5 = 5 by omega, List.nil_append]
      obtain ⟨k, hk⟩ : ∃ k, cap - rs.length = k + 1 := ⟨cap - rs.length - 1, by omega⟩
      rw [hk, zs_drop, List.length_append, show cap - (rs.length + [r].length) = k by simp; omega]
      simp [tcs]
    · have hcl : ∀ j u, (tcs rs)[j]? = some u → w.cell? ((⟨g0, 0, none⟩ : Addr).add j) = some u := fun j u hu => by
       have hj := (List.getElem?_eq_some_iff.1 hu).1
       rw [Addr.add_lit, Nat.zero_add, cell_of_row _ _ _ _ _ _ a2, ← Array.getElem?_toList, a5, List.getElem?_append_left hj, hu]
      have hrn := run_append_grow (P := P) (w := w) t o.type 98 i _ ht hi hz ⟨g0, 0, none⟩ rs.length cap (tcs rs) (by rw [hsize, tcs_length]) hcl ⟨g, 0, none⟩ 1 c (tk r) (by rw [hsize]; rfl) hnews (by omega) (by omega) (by rw [hby]; exact growslice_fits (by omega) (by omega))
      refine ⟨_, _, _, hrn, .inr ⟨_, _, _, by rw [List.length_append]; rfl, hbase, heap_alloc_new w.drew _, by rw [List.length_append]; exact grownCap_ge w (rs.length + 1) cap _, grownCap_le_maxLen w (rs.length + 1) cap _ (by unfold maxLen; omega), ?_⟩, ⟨rfl, rfl, rfl, by simp, fun k hk _ => heap_alloc_old w.drew _ hk⟩, .inr (Nat.le_refl _)⟩
      rw [Array.toList_append, Array.toList_append, hzc, tcs_append, List.length_append]
      simp [tcs]
  obtain ⟨g', cap', w', hrun, k1, k2, k3⟩ := key
  unfold Oper.wp execOp
  simp only [ho, resolve, invoke, builtin, Sem.run_bind, Sem.run_pure, Result.andThen_ok, List.map_toArray, List.map_cons, List.map_nil, hs, hx, hrun]
  exact hK _ _ (h g' cap' w' k1 k2 k3)
end
section
open Go.RowKit
structure Fr (w w' : World) (x : Nat → Prop) : Prop where
 os : w'.os = w.os
 tape : w'.tape = w.tape
 output : w'.output = w.output
 size : w.heap.size ≤ w'.heap.size
 block : ∀ b, b < w.heap.size → ¬ x b → w'.heap[b]? = w.heap[b]?
section
variable {w w' w1 w2 : World} {x y : Nat → Prop} {b : Nat} {t : TypeId} {cs : Array Value}
theorem Fr.refl (w : World) (x : Nat → Prop) : Fr w w x := ⟨rfl, rfl, rfl, Nat.le_refl _, fun _ _ _ => rfl⟩
theorem Fr.below (h : Fr w w1 x) (hb : Below w1.heap.size w1 w2) : Fr w w2 x :=
 ⟨hb.os.trans h.os, hb.tape.trans h.tape, hb.output.trans h.output, Nat.le_trans h.size hb.size, fun b hlt hx => (hb.block b (by have := h.size; omega)).trans (h.block b hlt hx)⟩
theorem Fr.set (h : Fr w w1 x) (hb : x b ∨ w.heap.size ≤ b) (i : Nat) (u : Value) : Fr w (w1.setCell ⟨b, i, none⟩ u) x :=
 ⟨h.os, h.tape, h.output, by simpa [World.setCell] using h.size, fun k hk hx => (Below.heap_setCell w1 ⟨b, i, none⟩ u k (fun e => by
   have e' : k = b := e
   subst e'
   rcases hb with hb | hb
   · exact hx hb
   · omega)).trans (h.block k hk hx)⟩
theorem Fr.grown {row : Option Nat} (h : Fr w w1 x) (hg : w1.grownBy w2 row) (hr : ∀ k, row = some k → x k ∨ w.heap.size ≤ k) : Fr w w2 x :=
 ⟨hg.os.trans h.os, hg.tape.trans h.tape, hg.output.trans h.output, Nat.le_trans h.size hg.size, fun k hk hx => (hg.block k (by have := h.size; omega) (fun e => by rcases hr k e.symm with h1 | h1; exact hx h1; omega)).trans (h.block k hk hx)⟩
theorem Fr.step (h : Fr w w1 x) (h' : Fr w1 w2 y) (hy : ∀ k, y k → x k ∨ w.heap.size ≤ k) : Fr w w2 x :=
 ⟨h'.os.trans h.os, h'.tape.trans h.tape, h'.output.trans h.output, Nat.le_trans h.size h'.size, fun k hk hx => (h'.block k (by have := h.size; omega) (fun e => by rcases hy k e with h1 | h1; exact hx h1; omega)).trans (h.block k hk hx)⟩
theorem Fr.blk (h : Fr w w' x) (hp : Blk w b t cs) (hx : ¬ x b) : Blk w' b t cs := (h.block b hp.lt hx).trans hp
theorem Fr.below_of (h : Fr w w' x) (hx : ∀ k, x k → w.heap.size ≤ k) : Below w.heap.size w w' :=
 ⟨h.os, h.tape, h.output, h.size, fun k hk => h.block k hk (fun e => by have := hx k e; omega)⟩
end
theorem gb_blk {w w2 : World} {b : Nat} {t : TypeId} {cs : Array Value} {row : Option Nat} (h : Blk w b t cs) (hg : w.grownBy w2 row) (hne : some b ≠ row) : Blk w2 b t cs := (hg.block b h.lt hne).trans h
theorem OutT.off {w : World} {base b : Nat} {v : Value} {rs : List Tk} {t : TypeId} {cs : Array Value} (h : OutT w base v rs) (hp : Blk w b t cs) (ht : t ≠ 98) : v.ownBlock ≠ some b := by
 rcases h with ⟨rfl, _⟩ | ⟨g, cap, cur, rfl, _, h2, _⟩
 · intro e; cases e
 ·
  intro e
  have e1 : g = b := by simpa [Value.ownBlock] using e
  subst e1
  have e2 := h2.symm.trans hp
  injection e2 with e2
  injection e2 with _ e2 _
  exact ht e2.symm
theorem OutT.base {w : World} {base b : Nat} {v : Value} {rs : List Tk} (h : OutT w base v rs) (e : v.ownBlock = some b) : base ≤ b ∧ b < w.heap.size := by
 rcases h with ⟨rfl, _⟩ | ⟨g, cap, cur, rfl, h1, h2, _⟩
 · cases e
 · have e1 : g = b := by simpa [Value.ownBlock] using e
   subst e1
   exact ⟨h1, (Array.getElem?_eq_some_iff.1 h2).1⟩
theorem tk_cells {w : World} {g : Nat} {t : TypeId} {k : Nat} {T : ByteArray} {m : Value} {p : Nat} (h : Blk w g t #[.int .i64 (k : Nat), .string T, .bool false, m, .int .i64 (p : Nat)]) : ∀ j u, (tk (k, T, m, p))[j]? = some u → w.cell? ⟨g, j, none⟩ = some u := fun j u hu => by
 rw [h.cell]
 rw [← List.getElem?_toArray] at hu
 exact hu
set_option maxRecDepth 100000 in
set_option maxHeartbeats 1600000 in
theorem tok1_c {w : World} {base Bo : Nat} {v : Value} {rs : List Tk} (hB : Blk w Bo 58 #[v]) (hown : OutT w base v rs) (hbase : base ≤ w.heap.size) (k p n c : Nat) (T : ByteArray) (A : Option Addr) (hlen : rs.length < 1048576) :
    Calls Tryz.prog 66 #[.agg #[.int .i64 (k : Nat), .string T, .bool false, .slice A n c, .int .i64 (p : Nat)], .pointer (some ⟨Bo, 0, none⟩)] w fun e w' => e = .returned (.bool true) ∧ ∃ v', Blk w' Bo 58 #[v'] ∧ OutT w' base v' (rs ++ [(k, T, .slice A n c, p)]) ∧ Fr w w' (fun b => b = Bo ∨ v.ownBlock = some b) := by
  obtain ⟨i0, hi, iz0, iz1, iz2⟩ := info_parts info_tok
  obtain ⟨A0, c0, rfl⟩ := hown.slice
  have hoff := hown.off hB (by decide)
  obtain ⟨W, hW, p2, hbW⟩ : ∃ W : World, W = w.alloc (.cells #[.int .i64 (k : Nat), .string T, .bool false, .slice A n c, .int .i64 (p : Nat)] 98) ∧ Blk W w.heap.size 98 #[.int .i64 (k : Nat), .string T, .bool false, .slice A n c, .int .i64 (p : Nat)] ∧ Below w.heap.size w W := ⟨_, rfl, Blk.new _ _ _, below_alloc1 _ _⟩
  have HW := Lib.hid hW
  have hBW := hB.below hbW
  have hoW := hown.below hbW
  clear hW hown hB
  go_enter Tryz.func66, Tryz.ntmps66
  go_upto_region 1 with (fail)
  rw [← HW.out]
  obtain ⟨_, c20, c21, c22, c23, c24⟩ := p2.facts
  have cB := hBW.cell 0
  have fB := hBW.free 0
  simp only [List.getElem?_toArray, List.getElem?_cons_zero] at cB
  have hsz := hbW.size
  go_wp2_with (at_builtin; refine wpList_append_tok _ rfl (.tmp 4) (.tmp 6) 58 rfl base i0 Tryz.underlying58 hi iz0 iz1 iz2 _ rs rfl (hoW.below (below_alloc1 _ _)) _ 1 (k, T, .slice A n c, p) rfl (tk_cells (Blk.new _ _ _)) rfl hlen (by simp; omega) ?_; intro g' cap w3 ho3 hg3 hor; have hB3 := gb_blk (hBW.below (below_alloc1 _ _)) hg3 (Ne.symm hoff); have cB3 := hB3.cell 0; have fB3 := hB3.free 0; simp only [List.getElem?_toArray, List.getElem?_cons_zero] at cB3; clear cB fB)
  go_ret
  have hne : g' ≠ Bo := fun e => ho3.off hB3 (by decide) (by rw [e]; rfl)
  refine ⟨rfl, _, hB3.put 0 _, ho3.kept (gb_set (World.grownBy.refl _ _) 0 _) (.inr (fun e => hne (by injection e))), ?_⟩
  refine Fr.set (Fr.grown (((Fr.refl w _).below hbW).below (below_alloc1 _ _)) hg3 (fun q hq => .inl (.inr hq))) (.inl (.inl rfl)) 0 _
end
end Go.Proofs.YthiadenmljbdaaaGreatDoor

/-
  The document's store: how it stands in memory; what keeps it; New, place: contracts.
-/
import Derived.Test.YtmncamnlmpajbaaSPlc
import Derived.Test.YtmncamnlmpajbaaSSpoil
import Derived.Test.YtmncamnlmpajbaaSRCopy
import Derived.Test.YtmncamnlmpajbaaSMay2
import Derived.Test.YtmncamnlmpajbaaSRSize
namespace Go.Proofs.Ytmncamnlmpajbaa
open Go.RowKit Go.Maps Go.WideMaps

def pcl (p : ByteArray × Kc) : List Value := .string p.1 :: kcl p.2
def pc0 : ByteArray × Kc := (⟨#[]⟩, kc0)
def prow (rs : List (ByteArray × Kc)) : List Value := rs.flatMap pcl
theorem prow_length (rs : List (ByteArray × Kc)) : (prow rs).length = rs.length * 7 := by
  induction rs with
  | nil => rfl
  | cons r rs ih => simp only [prow, List.flatMap_cons, List.length_append, pcl, kcl, List.length_cons, List.length_nil] at ih ⊢; omega
theorem prow_append (a b : List (ByteArray × Kc)) : prow (a ++ b) = prow a ++ prow b := by simp [prow]
theorem prow_get : ∀ (rs : List (ByteArray × Kc)) (i q : Nat), i < rs.length → q < 7 → (prow rs)[i * 7 + q]? = (pcl (rs.getD i pc0))[q]?
  | [], i, _, h, _ => by simp at h
  | r :: rs, 0, q, _, hq => by
    have e : prow (r :: rs) = pcl r ++ prow rs := by simp [prow]
    rw [e, Nat.zero_mul, Nat.zero_add, List.getElem?_append_left (by simp [pcl, kcl]; omega)]
    rfl
  | r :: rs, i + 1, q, h, hq => by
    have e : prow (r :: rs) = pcl r ++ prow rs := by simp [prow]
    have hl : (pcl r).length = 7 := rfl
    rw [e, List.getElem?_append_right (by rw [hl]; omega), hl, show (i + 1) * 7 + q - 7 = i * 7 + q by omega, prow_get rs i q (by simpa using h) hq]
    simp [List.getD]
/-- Cells of kept trees, each where it should be. -/
def PCs (cs : Array Value) (rs : List (ByteArray × Kc)) : Prop := ∀ i, i < rs.length → ∀ q, q < 7 → cs[i * 7 + q]? = (pcl (rs.getD i pc0))[q]?
theorem prow_iff {cs : Array Value} {rs : List (ByteArray × Kc)} {cap : Nat} (hs : cs.size = cap * 7) (hn : rs.length ≤ cap) : cs.toList.take (rs.length * 7) = prow rs ↔ PCs cs rs := by
  have hlen : (cs.toList.take (rs.length * 7)).length = rs.length * 7 := by
    have e : cs.toList.length = cap * 7 := by rw [Array.length_toList, hs]
    rw [List.length_take]; omega
  constructor
  · intro h i hi q hq
    have := prow_get rs i q hi hq
    rw [← h, List.getElem?_take_of_lt (by omega), Array.getElem?_toList] at this
    exact this
  · intro h
    apply List.ext_getElem?
    intro j
    by_cases hj : j < rs.length * 7
    · rw [List.getElem?_take_of_lt hj, Array.getElem?_toList]
      have h1 := h (j / 7) (by omega) (j % 7) (by omega)
      have h2 := prow_get rs (j / 7) (j % 7) (by omega) (by omega)
      rw [show j / 7 * 7 + j % 7 = j by omega] at h1 h2
      rw [h1, h2]
    · rw [List.getElem?_eq_none (by omega), List.getElem?_eq_none (by rw [prow_length]; omega)]
theorem row_open {w : World} {B : Nat} {v : Value} {rs : List (ByteArray × Kc)} {n : Nat} (hn : rs.length = n) (h : w.ownsRow B 65 7 v n (prow rs)) :
    (v = .slice none 0 0 ∧ n = 0) ∨ ∃ g cap cs, v = .slice (some ⟨g, 0, none⟩) n cap ∧ B ≤ g ∧ Blk w g 65 cs ∧ n ≤ cap ∧ cap ≤ maxLen ∧ cs.size = cap * 7 ∧ PCs cs rs := by
  subst hn
  rcases h.2 with h | ⟨g, cap, cs, e, hb, hg, hc, hm, hs, ht⟩
  · exact .inl h
  · exact .inr ⟨g, cap, cs, e, hb, hg, hc, hm, hs, (prow_iff hs hc).1 ht⟩
theorem row_mk {w : World} {B : Nat} {rs : List (ByteArray × Kc)} {g cap n : Nat} {cs : Array Value} (hn : rs.length = n) (hb : B ≤ g) (hg : Blk w g 65 cs) (hc : n ≤ cap) (hm : cap ≤ maxLen) (hs : cs.size = cap * 7) (ht : PCs cs rs) :
    w.ownsRow B 65 7 (.slice (some ⟨g, 0, none⟩) n cap) n (prow rs) := by
  subst hn
  exact ⟨prow_length rs, .inr ⟨g, cap, cs, rfl, hb, hg, hc, hm, hs, (prow_iff hs hc).2 ht⟩⟩
mutual
theorem T.In.tight {w : World} {R : Nat → Prop} : ∀ (t : T) (v : Value), T.In w R t v → T.In w (fun b => R b ∧ b < w.heap.size) t v
  | .node k nm ns ng mg ks, v, h => by
    simp only [T.In] at h ⊢
    obtain ⟨A1, c1, A2, c2, A3, c3, e, h1, h2, h3, h4⟩ := h
    refine ⟨A1, c1, A2, c2, A3, c3, e, ⟨h1.1, fun hn => ?_⟩, ⟨h2.1, fun hn ad e => ⟨h2.2 hn ad e, ?_⟩⟩, h3, fun hn => ?_⟩
    · obtain ⟨b, o, e, hb, hc⟩ := h1.2 hn
      exact ⟨b, o, e, ⟨hb, World.block_lt_of_cell? w _ (hc 0 hn)⟩, hc⟩
    · obtain ⟨b, o, e2, hc⟩ := h2.1.cells hn
      rw [e2] at e
      injection e with e
      subst e
      exact World.block_lt_of_cell? w _ (hc 0 hn)
    · obtain ⟨b, o, e, hb, hi⟩ := h4 hn
      obtain ⟨v0, v1, v2, v3, v4, v5, h6, _⟩ := T.Ins.get ks o 0 hi hn
      exact ⟨b, o, e, ⟨hb, World.block_lt_of_cell? w _ h6.1⟩, T.Ins.tight b ks o hi⟩
theorem T.Ins.tight {w : World} {R : Nat → Prop} (b : Nat) : ∀ (ks : List T) (o : Nat), T.Ins w R b o ks → T.Ins w (fun b => R b ∧ b < w.heap.size) b o ks
  | [], _, _ => by simp only [T.Ins]
  | t :: r, o, h => by
    simp only [T.Ins] at h ⊢
    obtain ⟨⟨v0, v1, v2, v3, v4, v5, h6, ht⟩, hr⟩ := h
    exact ⟨⟨v0, v1, v2, v3, v4, v5, h6, T.In.tight t _ ht⟩, T.Ins.tight b r (o + 6) hr⟩
end
/-- A tree that stays as it is. -/
theorem T.In.turn {w w' : World} {R R' : Nat → Prop} {t : T} {v : Value} {x : Nat → Prop} (h : T.In w R t v) (hF : Fr w w' x) (hR : ∀ b, b < w.heap.size → R b → R' b ∧ ¬ x b) : T.In w' R' t v :=
  T.In.keep (fun p _ hp hc => (World.cell?_of_block (a := p) (hF.block _ hp.2 (hR _ hp.2 hp.1).2)).trans hc) (fun b hb => (hR b hb.2 hb.1).1) t v (T.In.tight t v h)
/-- The document's store in w: Q its struct's block, v its row; what it keeps lies in blocks from B on, in Z, beside the row. -/
def RSt (w : World) (Q : Nat) (v : Value) (B : Nat) (Z : Nat → Prop) (L : Kl) : Prop :=
  Q < B ∧ Blk w Q 41 #[v] ∧ Rising L ∧ total L ≤ 3000 ∧ L.length ≤ 40 ∧ (∀ p ∈ L, p.2.bulk ≤ 1048576 ∧ p.1.size ≤ 1048576) ∧
    ∃ rs, rs.length = L.length ∧ w.ownsRow B 65 7 v L.length (prow rs) ∧
      ∀ i, i < L.length → (rs.getD i pc0).1 = (L.getD i kd).1 ∧ T.In w (fun b => B ≤ b ∧ v.ownBlock ≠ some b ∧ Z b) (L.getD i kd).2 (kv (rs.getD i pc0).2)
theorem own_fr {w w' : World} {B n : Nat} {v : Value} {xs : List Value} {x : Nat → Prop} (h : w.ownsRow B 65 7 v n xs) (hF : Fr w w' x) (hg : ∀ b, v.ownBlock = some b → ¬ x b) : w'.ownsRow B 65 7 v n xs := by
  refine ⟨h.1, ?_⟩
  rcases h.2 with h | ⟨g, cap, cs, rfl, hb, hc, h⟩
  · exact .inl h
  · exact .inr ⟨g, cap, cs, rfl, hb, (hF.block g (Array.getElem?_eq_some_iff.1 hc).1 (hg g rfl)).trans hc, h⟩
theorem RSt.turn {w w' : World} {Q B : Nat} {v : Value} {Z Z' : Nat → Prop} {L : Kl} {x : Nat → Prop} (h : RSt w Q v B Z L) (hF : Fr w w' x) (hQ : ¬ x Q) (hg : ∀ b, v.ownBlock = some b → ¬ x b)
    (hZ : ∀ b, b < w.heap.size → B ≤ b → v.ownBlock ≠ some b → Z b → Z' b ∧ ¬ x b) : RSt w' Q v B Z' L := by
  obtain ⟨h1, h2, h3, h4, h5, h6, rs, h7, h8, h9⟩ := h
  refine ⟨h1, hF.blk h2 hQ, h3, h4, h5, h6, rs, h7, own_fr h8 hF hg, fun i hi => ⟨(h9 i hi).1, (h9 i hi).2.turn hF (fun b hb hR => ?_)⟩⟩
  have := hZ b hb hR.1 hR.2.1 hR.2.2
  exact ⟨⟨hR.1, hR.2.1, this.1⟩, this.2⟩
theorem RSt.below {w w' : World} {Q B : Nat} {v : Value} {Z : Nat → Prop} {L : Kl} (h : RSt w Q v B Z L) (hb : Below w.heap.size w w') : RSt w' Q v B Z L :=
  h.turn (x := fun _ => False) ((Fr.refl w _).below hb) (fun h => h) (fun _ _ h => h) (fun _ _ _ _ hz => ⟨hz, fun h => h⟩)
theorem RSt.re {w : World} {Q B : Nat} {v : Value} {Z Z' : Nat → Prop} {L : Kl} (h : RSt w Q v B Z L) (hZ : ∀ b, b < w.heap.size → B ≤ b → v.ownBlock ≠ some b → Z b → Z' b) : RSt w Q v B Z' L :=
  h.turn (x := fun _ => False) (Fr.refl w _) (fun h => h) (fun _ _ h => h) (fun b h1 h2 h3 hz => ⟨hZ b h1 h2 h3 hz, fun h => h⟩)
/-- What the row's value is. -/
theorem RSt.form {w : World} {Q B : Nat} {v : Value} {Z : Nat → Prop} {L : Kl} (h : RSt w Q v B Z L) : ∃ A c, v = .slice A L.length c ∧ L.length ≤ c ∧
    (0 < L.length → ∃ g, A = some ⟨g, 0, none⟩ ∧ B ≤ g ∧ g < w.heap.size ∧ ∃ rs : List (ByteArray × Kc), ∀ i, i < L.length → (rs.getD i pc0).1 = (L.getD i kd).1 ∧ w.cell? ⟨g, i * 7, none⟩ = some (.string (L.getD i kd).1) ∧ KidAt w (fun b => B ≤ b ∧ g ≠ b ∧ Z b) g (i * 7 + 1) (L.getD i kd).2) := by
  obtain ⟨h1, h2, h3, h4, h5, h6, rs, h7, h8, h9⟩ := h
  rcases row_open h7 h8 with ⟨rfl, hn⟩ | ⟨g, cap, cs, rfl, hb, hg, hc, hm, hs, ht⟩
  · rw [hn]
    exact ⟨none, 0, rfl, Nat.le_refl _, fun h => by omega⟩
  · refine ⟨_, cap, rfl, hc, fun hn => ⟨g, rfl, hb, hg.lt, rs, fun i hi => ?_⟩⟩
    obtain ⟨e1, hin⟩ := h9 i hi
    have hcell : ∀ q, q < 7 → w.cell? ⟨g, i * 7 + q, none⟩ = (pcl (rs.getD i pc0))[q]? := fun q hq => (hg.cell _).trans (ht i (by omega) q hq)
    refine ⟨e1, ?_, ?_⟩
    · have := hcell 0 (by omega)
      rw [Nat.add_zero] at this
      rw [this, ← e1]
      rfl
    · obtain ⟨A1, c1, A2, c2, A3, c3, hform, _⟩ := hin.form
      obtain ⟨⟨nm, a0, a1, a2, a3, a4, a5⟩, hrs⟩ : ∃ p, rs.getD i pc0 = p := ⟨_, rfl⟩
      rw [hrs] at hcell hin hform
      injection hform with hform
      injection hform with hform
      simp only [List.cons.injEq, and_true] at hform
      obtain ⟨rfl, rfl, rfl, rfl, rfl, rfl⟩ := hform
      exact ⟨A1, c1, A2, c2, A3, c3, ⟨hcell 1 (by omega), hcell 2 (by omega), hcell 3 (by omega), hcell 4 (by omega), hcell 5 (by omega), hcell 6 (by omega)⟩, hin.mono (fun b hb => ⟨hb.1, fun e => hb.2.1 (by rw [e]; rfl), hb.2.2⟩)⟩
set_option maxRecDepth 100000 in
theorem rnew_s (w : World) : Calls Try.prog 8 #[] w fun e w' => e = .returned (.pointer (some ⟨w.heap.size, 0, none⟩)) ∧ w' = w.alloc (.cells #[.slice none 0 0] 41) := by
  go_enter Try.func8, Try.ntmps8
  go_wp2_with fail
  go_ret
  exact ⟨rfl, rfl⟩
theorem RSt.new (w : World) (Q B : Nat) (Z : Nat → Prop) (hB : Q < B) (hQ : Blk w Q 41 #[.slice none 0 0]) : RSt w Q (.slice none 0 0) B Z [] :=
  ⟨hB, hQ, List.Pairwise.nil, by decide, by decide, (fun p hp => by cases hp), [], rfl, ⟨rfl, .inl ⟨rfl, rfl⟩⟩, (fun i hi => absurd hi (Nat.not_lt_zero _))⟩
end Go.Proofs.Ytmncamnlmpajbaa

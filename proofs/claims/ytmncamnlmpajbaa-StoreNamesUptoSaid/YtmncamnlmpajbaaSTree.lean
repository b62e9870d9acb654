/-
  Trees: the datum, a tree that lies in memory, a tree in new memory.
-/
import Derived.Test.YtmncamnlmpajbaaSZ
import Derived.Test.YtmncamnlmpajbaaSLexA
namespace Go.Proofs.Ytmncamnlmpajbaa
open Go.RowKit

/-- A block of these cells. -/
def Blk (w : World) (b : Nat) (t : TypeId) (cs : Array Value) : Prop := w.heap[b]? = some (.cells cs t (0, 0))
section
variable {w w' : World} {b b' : Nat} {t : TypeId} {cs : Array Value} {a0 a1 a2 a3 a4 a5 : Value}
theorem Blk.new (w : World) (t : TypeId) (cs : Array Value) : Blk (w.alloc (.cells cs t)) w.heap.size t cs := heap_alloc_new w _
theorem Blk.lt (h : Blk w b t cs) : b < w.heap.size := (Array.getElem?_eq_some_iff.1 h).1
theorem Blk.below (h : Blk w b t cs) (hb : Below w.heap.size w w') : Blk w' b t cs := (hb.block b h.lt).trans h
theorem Blk.keep {B : Nat} (h : Blk w b t cs) (hb : Below B w w') (hlt : b < B) : Blk w' b t cs := (hb.block b hlt).trans h
theorem Blk.free (h : Blk w b t cs) (i : Nat) : w.frozen? ⟨b, i, none⟩ = false := frozen_of_row _ _ _ _ _ h
theorem Blk.cell (h : Blk w b t cs) (i : Nat) : w.cell? ⟨b, i, none⟩ = cs[i]? := cell_of_row _ _ _ _ _ _ h
theorem Blk.far (h : Blk w b t cs) (hne : b ≠ b') (i : Nat) (u : Value) : Blk (w.setCell ⟨b', i, none⟩ u) b t cs := (Below.heap_setCell w ⟨b', i, none⟩ u b hne).trans h
theorem Blk.put (h : Blk w b t cs) (i : Nat) (u : Value) : Blk (w.setCell ⟨b, i, none⟩ u) b t (cs.setIfInBounds i u) := heap_setCell_same _ _ i _ _ u h
theorem Blk.six (h : Blk w b t #[a0, a1, a2, a3, a4, a5]) : w.cell? ⟨b, 0, none⟩ = some a0 ∧ w.cell? ⟨b, 1, none⟩ = some a1 ∧ w.cell? ⟨b, 2, none⟩ = some a2 ∧ w.cell? ⟨b, 3, none⟩ = some a3 ∧ w.cell? ⟨b, 4, none⟩ = some a4 ∧ w.cell? ⟨b, 5, none⟩ = some a5 :=
  ⟨h.cell _, h.cell _, h.cell _, h.cell _, h.cell _, h.cell _⟩
end
/-- A block that is made: what is known of the world behind. -/
theorem made_blk (w : World) (cs : Array Value) (t : TypeId) : ∃ W : World, W = w.alloc (.cells cs t) ∧ Blk W w.heap.size t cs ∧ Below w.heap.size w W := ⟨_, rfl, Blk.new _ _ _, below_alloc1 _ _⟩

/-- A tree: kind, name, names, sign, limbs, kids. -/
inductive T where
  | node (k : Int) (nm : ByteArray) (ns : List ByteArray) (ng : Bool) (mg : List Nat) (ks : List T)
def T.k : T → Int | .node k _ _ _ _ _ => k
def T.nm : T → ByteArray | .node _ nm _ _ _ _ => nm
def T.ns : T → List ByteArray | .node _ _ ns _ _ _ => ns
def T.ng : T → Bool | .node _ _ _ ng _ _ => ng
def T.mg : T → List Nat | .node _ _ _ _ mg _ => mg
def T.ks : T → List T | .node _ _ _ _ _ ks => ks
def t0 : T := .node 0 ⟨#[]⟩ [] false [] []
def sbulk (ns : List ByteArray) : Nat := (ns.map (fun s => s.size + 1)).sum
mutual
/-- A tree's bulk. -/
def T.bulk : T → Nat
  | .node _ nm ns _ mg ks => nm.size + sbulk ns + mg.length + T.bulks ks + 1
def T.bulks : List T → Nat
  | [] => 0
  | t :: r => t.bulk + T.bulks r
end
theorem T.bulk_pos (t : T) : 0 < t.bulk := by cases t; simp [T.bulk]
theorem T.bulk_kid : ∀ (ks : List T) (i : Nat), i < ks.length → (ks.getD i t0).bulk ≤ T.bulks ks
  | [], i, h => absurd h (by simp)
  | t :: r, 0, _ => by simp [T.bulks]
  | t :: r, i + 1, h => by
    have := T.bulk_kid r i (by simpa using h)
    simp [T.bulks] at this ⊢
    omega
theorem T.len_bulks : ∀ (ks : List T), ks.length ≤ T.bulks ks
  | [] => by simp
  | t :: r => by have := T.len_bulks r; have := T.bulk_pos t; simp [T.bulks]; omega
theorem sbulk_len : ∀ (ns : List ByteArray), ns.length ≤ sbulk ns
  | [] => by simp
  | s :: r => by have := sbulk_len r; simp [sbulk] at this ⊢; omega
theorem sbulk_get : ∀ (ns : List ByteArray) (i : Nat), i < ns.length → (ns.getD i ⟨#[]⟩).size + 1 ≤ sbulk ns
  | [], i, h => absurd h (by simp)
  | s :: r, 0, _ => by simp [sbulk]
  | s :: r, i + 1, h => by
    have := sbulk_get r i (by simpa using h)
    simp [sbulk] at this ⊢
    omega
/-- What a bulk of at most N gives. -/
theorem T.bulk_node {k : Int} {nm : ByteArray} {ns : List ByteArray} {ng : Bool} {mg : List Nat} {ks : List T} {N : Nat} (h : (T.node k nm ns ng mg ks).bulk ≤ N) : nm.size < N ∧ ns.length < N ∧ sbulk ns < N ∧ mg.length < N ∧ ks.length < N ∧ T.bulks ks < N := by
  simp only [T.bulk] at h
  have := T.len_bulks ks
  have := sbulk_len ns
  omega

/-- A list of names in memory. -/
def StrL (w : World) (R : Nat → Prop) (A : Option Addr) (c : Nat) (ns : List ByteArray) : Prop := ns.length ≤ c ∧ (0 < ns.length → ∃ b o, A = some ⟨b, o, none⟩ ∧ R b ∧ ∀ i, i < ns.length → w.cell? ⟨b, o + i, none⟩ = some (.string (ns.getD i ⟨#[]⟩)))
/-- A list of limbs in memory, in blocks of R. -/
def SlR (w : World) (R : Nat → Prop) (A : Option Addr) (c : Nat) (l : List Nat) : Prop := Sl w A l.length c l ∧ (0 < l.length → ∀ ad, A = some ad → R ad.block)
/-- A tree's value. -/
abbrev tv (k : Int) (nm : ByteArray) (A1 : Option Addr) (n1 c1 : Nat) (ng : Bool) (A2 : Option Addr) (n2 c2 : Nat) (A3 : Option Addr) (n3 c3 : Nat) : Value :=
  .agg #[.int .i64 k, .string nm, .slice A1 n1 c1, .bool ng, .slice A2 n2 c2, .slice A3 n3 c3]
/-- Six cells, one behind the other. -/
def six (w : World) (b o : Nat) (v0 v1 v2 v3 v4 v5 : Value) : Prop := w.cell? ⟨b, o, none⟩ = some v0 ∧ w.cell? ⟨b, o + 1, none⟩ = some v1 ∧ w.cell? ⟨b, o + 2, none⟩ = some v2 ∧ w.cell? ⟨b, o + 3, none⟩ = some v3 ∧ w.cell? ⟨b, o + 4, none⟩ = some v4 ∧ w.cell? ⟨b, o + 5, none⟩ = some v5
mutual
/-- The tree t lies in w: v is its value; what it leads to lies in blocks of R. -/
def T.In (w : World) (R : Nat → Prop) : T → Value → Prop
  | .node k nm ns ng mg ks, v => ∃ A1 c1 A2 c2 A3 c3, v = tv k nm A1 ns.length c1 ng A2 mg.length c2 A3 ks.length c3 ∧ StrL w R A1 c1 ns ∧ SlR w R A2 c2 mg ∧ ks.length ≤ c3 ∧ (0 < ks.length → ∃ b o, A3 = some ⟨b, o, none⟩ ∧ R b ∧ T.Ins w R b o ks)
def T.Ins (w : World) (R : Nat → Prop) (b : Nat) : Nat → List T → Prop
  | _, [] => True
  | o, t :: r => (∃ v0 v1 v2 v3 v4 v5, six w b o v0 v1 v2 v3 v4 v5 ∧ T.In w R t (.agg #[v0, v1, v2, v3, v4, v5])) ∧ T.Ins w R b (o + 6) r
end
theorem StrL.keep {w w' : World} {R R' : Nat → Prop} {A : Option Addr} {c : Nat} {ns : List ByteArray} (h : StrL w R A c ns) (hk : ∀ p v, R p.block → w.cell? p = some v → w'.cell? p = some v) (hR : ∀ b, R b → R' b) : StrL w' R' A c ns := by
  refine ⟨h.1, fun hn => ?_⟩
  obtain ⟨b, o, e, hb, hc⟩ := h.2 hn
  exact ⟨b, o, e, hR b hb, fun i hi => hk _ _ hb (hc i hi)⟩
theorem SlR.keep {w w' : World} {R R' : Nat → Prop} {A : Option Addr} {c : Nat} {l : List Nat} (h : SlR w R A c l) (hk : ∀ p v, R p.block → w.cell? p = some v → w'.cell? p = some v) (hR : ∀ b, R b → R' b) : SlR w' R' A c l := by
  refine ⟨⟨h.1.len, h.1.cap, h.1.lim, fun hn => ?_⟩, fun hn ad e => hR _ (h.2 hn ad e)⟩
  obtain ⟨b, o, e, hc⟩ := h.1.cells hn
  exact ⟨b, o, e, fun k hk' => hk _ _ (show R b from h.2 hn _ e) (hc k hk')⟩
theorem six.keep {w w' : World} {b o : Nat} {v0 v1 v2 v3 v4 v5 : Value} (h : six w b o v0 v1 v2 v3 v4 v5) (hk : ∀ p v, p.block = b → w.cell? p = some v → w'.cell? p = some v) : six w' b o v0 v1 v2 v3 v4 v5 :=
  ⟨hk _ _ rfl h.1, hk _ _ rfl h.2.1, hk _ _ rfl h.2.2.1, hk _ _ rfl h.2.2.2.1, hk _ _ rfl h.2.2.2.2.1, hk _ _ rfl h.2.2.2.2.2⟩
mutual
theorem T.In.keep {w w' : World} {R R' : Nat → Prop} (hk : ∀ p v, R p.block → w.cell? p = some v → w'.cell? p = some v) (hR : ∀ b, R b → R' b) : ∀ (t : T) (v : Value), T.In w R t v → T.In w' R' t v
  | .node k nm ns ng mg ks, v, h => by
    simp only [T.In] at h ⊢
    obtain ⟨A1, c1, A2, c2, A3, c3, e, h1, h2, h3, h4⟩ := h
    refine ⟨A1, c1, A2, c2, A3, c3, e, h1.keep hk hR, h2.keep hk hR, h3, fun hn => ?_⟩
    obtain ⟨b, o, e, hb, hi⟩ := h4 hn
    exact ⟨b, o, e, hR b hb, T.Ins.keep hk hR b hb ks o hi⟩
theorem T.Ins.keep {w w' : World} {R R' : Nat → Prop} (hk : ∀ p v, R p.block → w.cell? p = some v → w'.cell? p = some v) (hR : ∀ b, R b → R' b) (b : Nat) (hb : R b) : ∀ (ks : List T) (o : Nat), T.Ins w R b o ks → T.Ins w' R' b o ks
  | [], _, _ => by simp only [T.Ins]
  | t :: r, o, h => by
    simp only [T.Ins] at h ⊢
    obtain ⟨⟨v0, v1, v2, v3, v4, v5, h6, ht⟩, hr⟩ := h
    exact ⟨⟨v0, v1, v2, v3, v4, v5, h6.keep (fun p v e => hk p v (e ▸ hb)), T.In.keep hk hR t _ ht⟩, T.Ins.keep hk hR b hb r (o + 6) hr⟩
end
theorem T.In.below {w w' : World} {R : Nat → Prop} {t : T} {v : Value} (h : T.In w R t v) (hb : Below w.heap.size w w') : T.In w' R t v :=
  T.In.keep (fun p _ _ hp => (hb.cell (World.block_lt_of_cell? w p hp)).trans hp) (fun _ h => h) t v h
theorem T.In.mono {w : World} {R R' : Nat → Prop} {t : T} {v : Value} (h : T.In w R t v) (hR : ∀ b, R b → R' b) : T.In w R' t v := T.In.keep (fun _ _ _ h => h) hR t v h
theorem T.In.fr {w w' : World} {R : Nat → Prop} {t : T} {v : Value} (h : T.In w R t v) (hb : ∀ b, R b → w'.heap[b]? = w.heap[b]?) : T.In w' R t v :=
  T.In.keep (fun p _ hp hc => (World.cell?_of_block (a := p) (hb _ hp)).trans hc) (fun _ h => h) t v h
/-- A kid. -/
theorem T.Ins.get {w : World} {R : Nat → Prop} {b : Nat} : ∀ (ks : List T) (o i : Nat), T.Ins w R b o ks → i < ks.length → ∃ v0 v1 v2 v3 v4 v5, six w b (o + i * 6) v0 v1 v2 v3 v4 v5 ∧ T.In w R (ks.getD i t0) (.agg #[v0, v1, v2, v3, v4, v5])
  | [], _, i, _, hi => absurd hi (by simp)
  | t :: r, o, 0, h, _ => by
    simp only [T.Ins] at h
    simpa using h.1
  | t :: r, o, i + 1, h, hi => by
    simp only [T.Ins] at h
    have := T.Ins.get r (o + 6) i h.2 (by simpa using hi)
    rw [show o + (i + 1) * 6 = o + 6 + i * 6 by omega]
    simpa using this
/-- A tree laid open. -/
theorem T.In.form {w : World} {R : Nat → Prop} {t : T} {v : Value} (h : T.In w R t v) : ∃ A1 c1 A2 c2 A3 c3, v = tv t.k t.nm A1 t.ns.length c1 t.ng A2 t.mg.length c2 A3 t.ks.length c3 ∧ StrL w R A1 c1 t.ns ∧ SlR w R A2 c2 t.mg ∧ t.ks.length ≤ c3 ∧
    (0 < t.ks.length → ∃ b o, A3 = some ⟨b, o, none⟩ ∧ ∀ i, i < t.ks.length → ∃ v0 v1 v2 v3 v4 v5, six w b (o + i * 6) v0 v1 v2 v3 v4 v5 ∧ T.In w R (t.ks.getD i t0) (.agg #[v0, v1, v2, v3, v4, v5])) := by
  cases t
  simp only [T.In] at h
  obtain ⟨A1, c1, A2, c2, A3, c3, e, h1, h2, h3, h4⟩ := h
  refine ⟨A1, c1, A2, c2, A3, c3, e, h1, h2, h3, fun hn => ?_⟩
  obtain ⟨b, o, e, _, hi⟩ := h4 hn
  exact ⟨b, o, e, fun i hlt => T.Ins.get _ o i hi hlt⟩
theorem keep_cell {w w' : World} {p : Addr} {v : Value} (h : w.cell? p = some v) (hb : Below w.heap.size w w') : w'.cell? p = some v := (hb.cell (World.block_lt_of_cell? w _ h)).trans h
theorem six.below {w w' : World} {b o : Nat} {v0 v1 v2 v3 v4 v5 : Value} (h : six w b o v0 v1 v2 v3 v4 v5) (hb : Below w.heap.size w w') : six w' b o v0 v1 v2 v3 v4 v5 := h.keep (fun _ _ _ hp => keep_cell hp hb)
/-- A tree's kid, laid open. -/
def KidAt (w : World) (R : Nat → Prop) (b o : Nat) (u : T) : Prop := ∃ A1 c1 A2 c2 A3 c3, six w b o (.int .i64 u.k) (.string u.nm) (.slice A1 u.ns.length c1) (.bool u.ng) (.slice A2 u.mg.length c2) (.slice A3 u.ks.length c3) ∧
  T.In w R u (tv u.k u.nm A1 u.ns.length c1 u.ng A2 u.mg.length c2 A3 u.ks.length c3)
theorem T.In.open {w : World} {R : Nat → Prop} {t : T} {v : Value} (h : T.In w R t v) : ∃ A1 c1 A2 c2 A3 c3, v = tv t.k t.nm A1 t.ns.length c1 t.ng A2 t.mg.length c2 A3 t.ks.length c3 ∧ StrL w R A1 c1 t.ns ∧ SlR w R A2 c2 t.mg ∧ t.ks.length ≤ c3 ∧
    (0 < t.ks.length → ∃ b o, A3 = some ⟨b, o, none⟩ ∧ ∀ i, i < t.ks.length → KidAt w R b (o + i * 6) (t.ks.getD i t0)) := by
  obtain ⟨A1, c1, A2, c2, A3, c3, e, h1, h2, h3, h4⟩ := h.form
  refine ⟨A1, c1, A2, c2, A3, c3, e, h1, h2, h3, fun hn => ?_⟩
  obtain ⟨b, o, e, hi⟩ := h4 hn
  refine ⟨b, o, e, fun i hlt => ?_⟩
  obtain ⟨v0, v1, v2, v3, v4, v5, h6, ht⟩ := hi i hlt
  have ht' := ht
  obtain ⟨B1, d1, B2, d2, B3, d3, e', _⟩ := ht.form
  injection e' with e'
  injection e' with e'
  simp only [List.cons.injEq, and_true] at e'
  obtain ⟨rfl, rfl, rfl, rfl, rfl, rfl⟩ := e'
  exact ⟨B1, d1, B2, d2, B3, d3, h6, ht'⟩
theorem KidAt.below {w w' : World} {R : Nat → Prop} {b o : Nat} {u : T} (h : KidAt w R b o u) (hb : Below w.heap.size w w') : KidAt w' R b o u := by
  obtain ⟨A1, c1, A2, c2, A3, c3, h6, ht⟩ := h
  exact ⟨A1, c1, A2, c2, A3, c3, h6.keep (fun p _ _ hp => (hb.cell (World.block_lt_of_cell? w p hp)).trans hp), ht.below hb⟩
theorem take_snoc {α : Type} (l : List α) (d : α) (i : Nat) (h : i < l.length) : l.take (i + 1) = l.take i ++ [l.getD i d] := by
  rw [List.take_succ_eq_append_getElem h]
  simp [List.getD, h]
theorem T.kid_bulk {t : T} {N i : Nat} (h : t.bulk ≤ N + 1) (hi : i < t.ks.length) : (t.ks.getD i t0).bulk ≤ N := by
  cases t with
  | node k nm ns ng mg ks =>
    have := T.bulk_kid ks i hi
    simp only [T.bulk, T.ks] at h ⊢
    omega
theorem T.len_le {t : T} {N : Nat} (h : t.bulk ≤ N) : t.nm.size ≤ N ∧ t.ns.length ≤ N ∧ sbulk t.ns ≤ N ∧ t.mg.length ≤ N ∧ t.ks.length ≤ N := by
  cases t with
  | node k nm ns ng mg ks =>
    obtain ⟨h1, h2, h3, h4, h5, _⟩ := T.bulk_node h
    exact ⟨by simp only [T.nm]; omega, by simp only [T.ns]; omega, by simp only [T.ns]; omega, by simp only [T.mg]; omega, by simp only [T.ks]; omega⟩
end Go.Proofs.Ytmncamnlmpajbaa

/-
  l: the parts YNew.
-/
import Derived.Test.YthiadenmljbdaaaGreatDoorB7l
namespace Go.Proofs.YthiadenmljbdaaaGreatDoor
section
open Go.RowKit
def Rw (w : World) (b : Nat) : Prop := ∃ cs t, w.heap[b]? = some (.cells cs t (0, 0))
def Nb (w : World) (lo m : Nat) (b : Nat) : Prop := lo ≤ b ∧ b < m ∧ Rw w b
theorem Rw.lt {w : World} {b : Nat} (h : Rw w b) : b < w.heap.size := by
 obtain ⟨cs, t, h⟩ := h
 exact (Array.getElem?_eq_some_iff.1 h).1
theorem Rw.same {w w' : World} {b : Nat} (h : Rw w b) (e : w'.heap[b]? = w.heap[b]?) : Rw w' b := by
 obtain ⟨cs, t, h⟩ := h
 exact ⟨cs, t, e.trans h⟩
abbrev kv (c : Kc) : Value := .agg #[c.1, c.2.1, c.2.2.1, c.2.2.2.1, c.2.2.2.2.1, c.2.2.2.2.2]
abbrev tc (k : Int) (nm : ByteArray) (A1 : Option Addr) (n1 c1 : Nat) (ng : Bool) (A2 : Option Addr) (n2 c2 : Nat) (A3 : Option Addr) (n3 c3 : Nat) : Kc :=
 (.int .i64 k, .string nm, .slice A1 n1 c1, .bool ng, .slice A2 n2 c2, .slice A3 n3 c3)
def KRow (w : World) (g n c : Nat) (rs : List Kc) : Prop := ∃ cur, w.heap[g]? = some (.cells cur 28 (0, 0)) ∧ n ≤ c ∧ c ≤ maxLen ∧ rs.length = n ∧ cur.toList = kcs rs ++ kzs (c - n)
theorem KRow.same {w w' : World} {g n c : Nat} {rs : List Kc} (h : KRow w g n c rs) (e : w'.heap[g]? = w.heap[g]?) : KRow w' g n c rs := by
 obtain ⟨cur, h1, h⟩ := h
 exact ⟨cur, e.trans h1, h⟩
theorem KRow.cells {w : World} {g n c : Nat} {rs : List Kc} (h : KRow w g n c rs) : ∀ i, i < n → ∀ j, j < 6 → w.cell? ⟨g, i * 6 + j, none⟩ = (kcl (rs.getD i kc0))[j]? := by
 obtain ⟨cur, h1, h2, h3, h4, h5⟩ := h
 intro i hi j hj
 rw [cell_of_row _ _ _ _ _ _ h1, ← Array.getElem?_toList, h5, List.getElem?_append_left (by rw [kcs_length]; omega), kcs_get _ _ _ (by omega) hj]
theorem OutK.row {w : World} {base : Nat} {v : Value} {rs : List Kc} (h : OutK w base v rs) : (v = .slice none 0 0 ∧ rs = []) ∨ ∃ g c, v = .slice (some ⟨g, 0, none⟩) rs.length c ∧ base ≤ g ∧ g < w.heap.size ∧ KRow w g rs.length c rs := by
 rcases h with h | ⟨g, cap, cur, rfl, h1, h2, h3, h4, h5⟩
 · exact .inl h
 · exact .inr ⟨g, cap, rfl, h1, (Array.getElem?_eq_some_iff.1 h2).1, cur, h2, h3, h4, rfl, h5⟩
mutual
def T.New (w : World) : T → Nat → Nat → Kc → Prop
 | .node k nm ns ng mg ks, lo, hi, v => ∃ A1 c1 A2 c2 A3 c3 m, v = tc k nm A1 ns.length c1 ng A2 mg.length c2 A3 ks.length c3 ∧ lo ≤ m ∧ m ≤ hi ∧ StrL w (Nb w lo m) A1 c1 ns ∧ SlR w (Nb w lo m) A2 c2 mg ∧
  ((A3 = Option.none ∧ c3 = 0 ∧ ks = []) ∨ ∃ g rs, A3 = some ⟨g, 0, Option.none⟩ ∧ m ≤ g ∧ g < hi ∧ KRow w g ks.length c3 rs ∧ T.News w ks g m hi rs)
def T.News (w : World) : List T → Nat → Nat → Nat → List Kc → Prop
 | [], _, lo, hi, rs => rs = [] ∧ lo ≤ hi
 | t :: r, g, lo, hi, rs => ∃ c q a mid, rs = c :: q ∧ lo ≤ a ∧ a ≤ mid ∧ (g < a ∨ mid ≤ g) ∧ T.New w t a mid c ∧ T.News w r g mid hi q
end
theorem T.New.le {w : World} {t : T} {lo hi : Nat} {v : Kc} (h : T.New w t lo hi v) : lo ≤ hi := by
 cases t
 simp only [T.New] at h
 obtain ⟨A1, c1, A2, c2, A3, c3, m, _, h1, h2, _⟩ := h
 omega
theorem T.News.le {w : World} : ∀ (ks : List T) (g lo hi : Nat) (rs : List Kc), T.News w ks g lo hi rs → lo ≤ hi
 | [], _, _, _, _, h => by simp only [T.News] at h; exact h.2
 | t :: r, g, lo, hi, rs, h => by
  simp only [T.News] at h
  obtain ⟨c, q, a, mid, _, h1, h2, _, _, h3⟩ := h
  have := T.News.le r g mid hi q h3
  omega
theorem T.News.len {w : World} : ∀ (ks : List T) (g lo hi : Nat) (rs : List Kc), T.News w ks g lo hi rs → rs.length = ks.length
 | [], _, _, _, _, h => by simp only [T.News] at h; rw [h.1]; rfl
 | t :: r, g, lo, hi, rs, h => by
  simp only [T.News] at h
  obtain ⟨c, q, a, mid, rfl, h1, h2, _, _, h3⟩ := h
  simp [T.News.len r g mid hi q h3]
mutual
theorem T.New.keep {w w' : World} : ∀ (t : T) (lo hi : Nat) (v : Kc), T.New w t lo hi v → (∀ b, lo ≤ b → b < hi → w'.heap[b]? = w.heap[b]?) → T.New w' t lo hi v
 | .node k nm ns ng mg ks, lo, hi, v, h, e => by
  simp only [T.New] at h ⊢
  obtain ⟨A1, c1, A2, c2, A3, c3, m, hv, h1, h2, hs, hm, hk⟩ := h
  have hkp : ∀ p v, Nb w lo m p.block → w.cell? p = some v → w'.cell? p = some v := fun p _ hp hc => (World.cell?_of_block (a := p) (e _ hp.1 (by have := hp.2.1; omega))).trans hc
  have hR : ∀ b, Nb w lo m b → Nb w' lo m b := fun b hb => ⟨hb.1, hb.2.1, hb.2.2.same (e b hb.1 (by have := hb.2.1; omega))⟩
  refine ⟨A1, c1, A2, c2, A3, c3, m, hv, h1, h2, hs.keep hkp hR, hm.keep hkp hR, ?_⟩
  rcases hk with hk | ⟨g, rs, hA, hg1, hg2, hrow, hn⟩
  · exact .inl hk
  · exact .inr ⟨g, rs, hA, hg1, hg2, hrow.same (e g (by omega) hg2), T.News.keep ks g m hi rs hn (fun b hb1 hb2 _ => e b (by omega) hb2)⟩
theorem T.News.keep {w w' : World} : ∀ (ks : List T) (g lo hi : Nat) (rs : List Kc), T.News w ks g lo hi rs → (∀ b, lo ≤ b → b < hi → b ≠ g → w'.heap[b]? = w.heap[b]?) → T.News w' ks g lo hi rs
 | [], _, _, _, _, h, _ => by simp only [T.News] at h ⊢; exact h
 | t :: r, g, lo, hi, rs, h, e => by
  simp only [T.News] at h ⊢
  obtain ⟨c, q, a, mid, hrs, h1, h2, hg, ht, hr⟩ := h
  have hle := T.News.le r g mid hi q hr
  exact ⟨c, q, a, mid, hrs, h1, h2, hg, T.New.keep t a mid c ht (fun b hb1 hb2 => e b (by omega) (by omega) (by omega)), T.News.keep r g mid hi q hr (fun b hb1 hb2 hb3 => e b (by omega) hb2 hb3)⟩
end
theorem T.News.hi {w : World} : ∀ (ks : List T) (g lo hi hi' : Nat) (rs : List Kc), T.News w ks g lo hi rs → hi ≤ hi' → T.News w ks g lo hi' rs
 | [], _, _, _, _, _, h, hh => by simp only [T.News] at h ⊢; exact ⟨h.1, by omega⟩
 | t :: r, g, lo, hi, hi', rs, h, hh => by
  simp only [T.News] at h ⊢
  obtain ⟨c, q, a, mid, hrs, h1, h2, hg, ht, hr⟩ := h
  exact ⟨c, q, a, mid, hrs, h1, h2, hg, ht, T.News.hi r g mid hi hi' q hr hh⟩
theorem T.News.apart {w : World} : ∀ (ks : List T) (g g' lo hi : Nat) (rs : List Kc), T.News w ks g lo hi rs → hi ≤ g' → T.News w ks g' lo hi rs
 | [], _, _, _, _, _, h, hh => by simp only [T.News] at h ⊢; exact h
 | t :: r, g, g', lo, hi, rs, h, hh => by
  simp only [T.News] at h ⊢
  obtain ⟨c, q, a, mid, hrs, h1, h2, hg, ht, hr⟩ := h
  have hle := T.News.le r g mid hi q hr
  exact ⟨c, q, a, mid, hrs, h1, h2, .inr (by omega), ht, T.News.apart r g g' mid hi q hr hh⟩
theorem T.News.snoc {w : World} : ∀ (ks : List T) (g lo mid hi : Nat) (rs : List Kc) (t : T) (c : Kc), T.News w ks g lo mid rs → T.New w t mid hi c → (g < mid ∨ hi ≤ g) → T.News w (ks ++ [t]) g lo hi (rs ++ [c])
 | [], g, lo, mid, hi, rs, t, c, h, ht, hg => by
  have := ht.le
  simp only [T.News] at h
  simp only [T.News, List.nil_append, h.1]
  exact ⟨c, [], mid, hi, rfl, h.2, this, hg, ht, rfl, Nat.le_refl _⟩
 | u :: r, g, lo, mid, hi, rs, t, c, h, ht, hg => by
  simp only [T.News, List.cons_append] at h ⊢
  obtain ⟨d, q, a, m2, hrs, h1, h2, hg2, hu, hr⟩ := h
  exact ⟨d, q ++ [c], a, m2, by rw [hrs]; rfl, h1, h2, hg2, hu, T.News.snoc r g m2 mid hi q t c hr ht hg⟩
theorem T.New.wide {w : World} {t : T} {lo hi lo' hi' : Nat} {v : Kc} (h : T.New w t lo hi v) (h1 : lo' ≤ lo) (h2 : hi ≤ hi') : T.New w t lo' hi' v := by
 cases t with
 | node k nm ns ng mg ks =>
  simp only [T.New] at h ⊢
  obtain ⟨A1, c1, A2, c2, A3, c3, m, hv, hm1, hm2, hs, hm, hk⟩ := h
  have hR : ∀ b, Nb w lo m b → Nb w lo' m b := fun b hb => ⟨by have := hb.1; omega, hb.2⟩
  refine ⟨A1, c1, A2, c2, A3, c3, m, hv, by omega, by omega, hs.keep (fun _ _ _ hc => hc) hR, hm.keep (fun _ _ _ hc => hc) hR, ?_⟩
  rcases hk with hk | ⟨g, rs, hA, hg1, hg2, hrow, hn⟩
  · exact .inl hk
  · exact .inr ⟨g, rs, hA, hg1, by omega, hrow, T.News.hi ks g m hi hi' rs hn h2⟩
theorem T.New.below {w w' : World} {t : T} {lo hi : Nat} {v : Kc} (h : T.New w t lo hi v) (hh : hi ≤ w.heap.size) (hb : Below w.heap.size w w') : T.New w' t lo hi v :=
 T.New.keep t lo hi v h (fun b _ hb2 => hb.block b (by omega))
mutual
theorem T.New.In {w : World} : ∀ (t : T) (lo hi : Nat) (v : Kc) (R : Nat → Prop), T.New w t lo hi v → (∀ b, lo ≤ b → b < hi → R b) → T.In w R t (kv v)
 | .node k nm ns ng mg ks, lo, hi, v, R, h, hR => by
  simp only [T.New] at h
  obtain ⟨A1, c1, A2, c2, A3, c3, m, rfl, h1, h2, hs, hm, hk⟩ := h
  have hN : ∀ b, Nb w lo m b → R b := fun b hb => hR b hb.1 (by have := hb.2.1; omega)
  simp only [T.In]
  refine ⟨A1, c1, A2, c2, A3, c3, rfl, hs.keep (fun _ _ _ hc => hc) hN, hm.keep (fun _ _ _ hc => hc) hN, ?_, fun hn => ?_⟩
  · rcases hk with ⟨_, _, rfl⟩ | ⟨g, rs, _, _, _, ⟨_, _, h3, _⟩, _⟩
    · exact Nat.zero_le _
    · exact h3
  · rcases hk with ⟨_, _, rfl⟩ | ⟨g, rs, hA, hg1, hg2, hrow, hn2⟩
    · exact absurd hn (by simp)
    · have hl := T.News.len ks g m hi rs hn2
      have hcs := hrow.cells
      exact ⟨g, 0, hA, hR g (by omega) hg2, T.News.In ks g m hi rs 0 R hn2 (fun b hb1 hb2 => hR b (by omega) hb2) (fun i hi' j hj => by rw [Nat.zero_add]; exact hcs i (by omega) j hj)⟩
theorem T.News.In {w : World} : ∀ (ks : List T) (g lo hi : Nat) (rs : List Kc) (o : Nat) (R : Nat → Prop), T.News w ks g lo hi rs → (∀ b, lo ≤ b → b < hi → R b) → (∀ i, i < rs.length → ∀ j, j < 6 → w.cell? ⟨g, o + (i * 6 + j), Option.none⟩ = (kcl (rs.getD i kc0))[j]?) → T.Ins w R g o ks
 | [], _, _, _, _, _, _, _, _, _ => by simp only [T.Ins]
 | t :: r, g, lo, hi, rs, o, R, h, hR, hc => by
  simp only [T.News] at h
  obtain ⟨c, q, a, mid, rfl, h1, h2, hg, ht, hr⟩ := h
  have hle := T.News.le r g mid hi q hr
  simp only [T.Ins]
  refine ⟨⟨c.1, c.2.1, c.2.2.1, c.2.2.2.1, c.2.2.2.2.1, c.2.2.2.2.2, ?_, T.New.In t a mid c R ht (fun b hb1 hb2 => hR b (by omega) (by omega))⟩, T.News.In r g mid hi q (o + 6) R hr (fun b hb1 hb2 => hR b (by omega) hb2) ?_⟩
  · have h0 := hc 0 (by simp)
    simp only [Nat.zero_mul, Nat.zero_add] at h0
    exact ⟨h0 0 (by omega), h0 1 (by omega), h0 2 (by omega), h0 3 (by omega), h0 4 (by omega), h0 5 (by omega)⟩
  · intro i hi' j hj
    have := hc (i + 1) (by simpa using hi') j hj
    rw [show o + 6 + (i * 6 + j) = o + ((i + 1) * 6 + j) by omega, this]
    simp [List.getD]
end
end
end Go.Proofs.YthiadenmljbdaaaGreatDoor

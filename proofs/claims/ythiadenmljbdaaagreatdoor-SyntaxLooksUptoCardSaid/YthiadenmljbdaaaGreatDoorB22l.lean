/-
  l: the parts ZNew ZCopy TLent.
-/
import Derived.Test.YthiadenmljbdaaaGreatDoorB9l
import Derived.Test.YthiadenmljbdaaaGreatDoorB21l
import Derived.Test.YthiadenmljbdaaaGreatDoorB8l
import Derived.Laws.CopyOwn
namespace Go.Proofs.YthiadenmljbdaaaGreatDoor
section
open Go.RowKit
def NmX (w : World) (lo hi : Nat) (A : Option Addr) (c : Nat) (ns : List ByteArray) : Prop := StrL w (Nb w lo hi) A c ns ∧ c ≤ maxLen ∧ Nz w lo hi A c
def SmX (w : World) (lo hi : Nat) (A : Option Addr) (c : Nat) (l : List Nat) : Prop := SlR w (Nb w lo hi) A c l ∧ c ≤ maxLen ∧ Lz w (fun b => lo ≤ b ∧ b < hi) A c
theorem NmX.up {w w' : World} {lo hi lo' hi' : Nat} {A : Option Addr} {c : Nat} {ns : List ByteArray} (h : NmX w lo hi A c ns) (h1 : lo' ≤ lo) (h2 : hi ≤ hi') (he : ∀ b, lo ≤ b → b < hi → w'.heap[b]? = w.heap[b]?) : NmX w' lo' hi' A c ns := by
 refine ⟨h.1.up h1 h2 he, h.2.1, ?_⟩
 rcases h.2.2 with h | ⟨g, cs, hA, h3, h4, h5, h6⟩
 · exact .inl h
 · exact .inr ⟨g, cs, hA, by omega, by omega, (he g h3 h4).trans h5, h6⟩
theorem SmX.up {w w' : World} {lo hi lo' hi' : Nat} {A : Option Addr} {c : Nat} {l : List Nat} (h : SmX w lo hi A c l) (h1 : lo' ≤ lo) (h2 : hi ≤ hi') (he : ∀ b, lo ≤ b → b < hi → w'.heap[b]? = w.heap[b]?) : SmX w' lo' hi' A c l := by
 refine ⟨h.1.up h1 h2 he, h.2.1, ?_⟩
 rcases h.2.2 with h | ⟨g, cs, hA, h3, h5, h6, h7⟩
 · exact .inl h
 · exact .inr ⟨g, cs, hA, ⟨by have := h3.1; omega, by have := h3.2; omega⟩, (he g h3.1 h3.2).trans h5, h6, h7⟩
mutual
def T.Nw (w : World) : T → Nat → Nat → Kc → Prop
 | .node k nm ns ng mg ks, lo, hi, v => ∃ A1 c1 A2 c2 A3 c3 m, v = tc k nm A1 ns.length c1 ng A2 mg.length c2 A3 ks.length c3 ∧ lo ≤ m ∧ m ≤ hi ∧ NmX w lo m A1 c1 ns ∧ SmX w lo m A2 c2 mg ∧
  ((A3 = Option.none ∧ c3 = 0 ∧ ks = []) ∨ ∃ g rs, A3 = some ⟨g, 0, Option.none⟩ ∧ m ≤ g ∧ g < hi ∧ KRow w g ks.length c3 rs ∧ T.Nws w ks g m hi rs)
def T.Nws (w : World) : List T → Nat → Nat → Nat → List Kc → Prop
 | [], _, lo, hi, rs => rs = [] ∧ lo ≤ hi
 | t :: r, g, lo, hi, rs => ∃ c q a mid, rs = c :: q ∧ lo ≤ a ∧ a ≤ mid ∧ (g < a ∨ mid ≤ g) ∧ T.Nw w t a mid c ∧ T.Nws w r g mid hi q
end
theorem T.Nw.le {w : World} {t : T} {lo hi : Nat} {v : Kc} (h : T.Nw w t lo hi v) : lo ≤ hi := by
 cases t
 simp only [T.Nw] at h
 obtain ⟨A1, c1, A2, c2, A3, c3, m, _, h1, h2, _⟩ := h
 omega
theorem T.Nws.le {w : World} : ∀ (ks : List T) (g lo hi : Nat) (rs : List Kc), T.Nws w ks g lo hi rs → lo ≤ hi
 | [], _, _, _, _, h => by simp only [T.Nws] at h; exact h.2
 | t :: r, g, lo, hi, rs, h => by
  simp only [T.Nws] at h
  obtain ⟨c, q, a, mid, _, h1, h2, _, _, h3⟩ := h
  have := T.Nws.le r g mid hi q h3
  omega
theorem T.Nws.len {w : World} : ∀ (ks : List T) (g lo hi : Nat) (rs : List Kc), T.Nws w ks g lo hi rs → rs.length = ks.length
 | [], _, _, _, _, h => by simp only [T.Nws] at h; rw [h.1]; rfl
 | t :: r, g, lo, hi, rs, h => by
  simp only [T.Nws] at h
  obtain ⟨c, q, a, mid, rfl, h1, h2, _, _, h3⟩ := h
  simp [T.Nws.len r g mid hi q h3]
mutual
theorem T.Nw.keep {w w' : World} : ∀ (t : T) (lo hi : Nat) (v : Kc), T.Nw w t lo hi v → (∀ b, lo ≤ b → b < hi → w'.heap[b]? = w.heap[b]?) → T.Nw w' t lo hi v
 | .node k nm ns ng mg ks, lo, hi, v, h, e => by
  simp only [T.Nw] at h ⊢
  obtain ⟨A1, c1, A2, c2, A3, c3, m, hv, h1, h2, hs, hm, hk⟩ := h
  refine ⟨A1, c1, A2, c2, A3, c3, m, hv, h1, h2, hs.up (Nat.le_refl _) (Nat.le_refl _) (fun b h1 h2 => e b h1 (by omega)), hm.up (Nat.le_refl _) (Nat.le_refl _) (fun b h1 h2 => e b h1 (by omega)), ?_⟩
  rcases hk with hk | ⟨g, rs, hA, hg1, hg2, hrow, hn⟩
  · exact .inl hk
  · exact .inr ⟨g, rs, hA, hg1, hg2, hrow.same (e g (by omega) hg2), T.Nws.keep ks g m hi rs hn (fun b hb1 hb2 _ => e b (by omega) hb2)⟩
theorem T.Nws.keep {w w' : World} : ∀ (ks : List T) (g lo hi : Nat) (rs : List Kc), T.Nws w ks g lo hi rs → (∀ b, lo ≤ b → b < hi → b ≠ g → w'.heap[b]? = w.heap[b]?) → T.Nws w' ks g lo hi rs
 | [], _, _, _, _, h, _ => by simp only [T.Nws] at h ⊢; exact h
 | t :: r, g, lo, hi, rs, h, e => by
  simp only [T.Nws] at h ⊢
  obtain ⟨c, q, a, mid, hrs, h1, h2, hg, ht, hr⟩ := h
  have hle := T.Nws.le r g mid hi q hr
  exact ⟨c, q, a, mid, hrs, h1, h2, hg, T.Nw.keep t a mid c ht (fun b hb1 hb2 => e b (by omega) (by omega) (by omega)), T.Nws.keep r g mid hi q hr (fun b hb1 hb2 hb3 => e b (by omega) hb2 hb3)⟩
end
theorem T.Nws.hi {w : World} : ∀ (ks : List T) (g lo hi hi' : Nat) (rs : List Kc), T.Nws w ks g lo hi rs → hi ≤ hi' → T.Nws w ks g lo hi' rs
 | [], _, _, _, _, _, h, hh => by simp only [T.Nws] at h ⊢; exact ⟨h.1, by omega⟩
 | t :: r, g, lo, hi, hi', rs, h, hh => by
  simp only [T.Nws] at h ⊢
  obtain ⟨c, q, a, mid, hrs, h1, h2, hg, ht, hr⟩ := h
  exact ⟨c, q, a, mid, hrs, h1, h2, hg, ht, T.Nws.hi r g mid hi hi' q hr hh⟩
theorem T.Nws.apart {w : World} : ∀ (ks : List T) (g g' lo hi : Nat) (rs : List Kc), T.Nws w ks g lo hi rs → hi ≤ g' → T.Nws w ks g' lo hi rs
 | [], _, _, _, _, _, h, hh => by simp only [T.Nws] at h ⊢; exact h
 | t :: r, g, g', lo, hi, rs, h, hh => by
  simp only [T.Nws] at h ⊢
  obtain ⟨c, q, a, mid, hrs, h1, h2, hg, ht, hr⟩ := h
  have hle := T.Nws.le r g mid hi q hr
  exact ⟨c, q, a, mid, hrs, h1, h2, .inr (by omega), ht, T.Nws.apart r g g' mid hi q hr hh⟩
theorem T.Nws.snoc {w : World} : ∀ (ks : List T) (g lo mid hi : Nat) (rs : List Kc) (t : T) (c : Kc), T.Nws w ks g lo mid rs → T.Nw w t mid hi c → (g < mid ∨ hi ≤ g) → T.Nws w (ks ++ [t]) g lo hi (rs ++ [c])
 | [], g, lo, mid, hi, rs, t, c, h, ht, hg => by
  have := ht.le
  simp only [T.Nws] at h
  simp only [T.Nws, List.nil_append, h.1]
  exact ⟨c, [], mid, hi, rfl, h.2, this, hg, ht, rfl, Nat.le_refl _⟩
 | u :: r, g, lo, mid, hi, rs, t, c, h, ht, hg => by
  simp only [T.Nws, List.cons_append] at h ⊢
  obtain ⟨d, q, a, m2, hrs, h1, h2, hg2, hu, hr⟩ := h
  exact ⟨d, q ++ [c], a, m2, by rw [hrs]; rfl, h1, h2, hg2, hu, T.Nws.snoc r g m2 mid hi q t c hr ht hg⟩
theorem T.Nw.wide {w : World} {t : T} {lo hi lo' hi' : Nat} {v : Kc} (h : T.Nw w t lo hi v) (h1 : lo' ≤ lo) (h2 : hi ≤ hi') : T.Nw w t lo' hi' v := by
 cases t with
 | node k nm ns ng mg ks =>
  simp only [T.Nw] at h ⊢
  obtain ⟨A1, c1, A2, c2, A3, c3, m, hv, hm1, hm2, hs, hm, hk⟩ := h
  refine ⟨A1, c1, A2, c2, A3, c3, m, hv, by omega, by omega, hs.up h1 (Nat.le_refl _) (fun _ _ _ => rfl), hm.up h1 (Nat.le_refl _) (fun _ _ _ => rfl), ?_⟩
  rcases hk with hk | ⟨g, rs, hA, hg1, hg2, hrow, hn⟩
  · exact .inl hk
  · exact .inr ⟨g, rs, hA, hg1, by omega, hrow, T.Nws.hi ks g m hi hi' rs hn h2⟩
theorem T.Nw.below {w w' : World} {t : T} {lo hi : Nat} {v : Kc} (h : T.Nw w t lo hi v) (hh : hi ≤ w.heap.size) (hb : Below w.heap.size w w') : T.Nw w' t lo hi v :=
 T.Nw.keep t lo hi v h (fun b _ hb2 => hb.block b (by omega))
mutual
theorem T.Nw.In {w : World} : ∀ (t : T) (lo hi : Nat) (v : Kc) (R : Nat → Prop), T.Nw w t lo hi v → (∀ b, lo ≤ b → b < hi → R b) → T.In w R t (kv v)
 | .node k nm ns ng mg ks, lo, hi, v, R, h, hR => by
  simp only [T.Nw] at h
  obtain ⟨A1, c1, A2, c2, A3, c3, m, rfl, h1, h2, hs, hm, hk⟩ := h
  have hN : ∀ b, Nb w lo m b → R b := fun b hb => hR b hb.1 (by have := hb.2.1; omega)
  simp only [T.In]
  refine ⟨A1, c1, A2, c2, A3, c3, rfl, hs.1.keep (fun _ _ _ hc => hc) hN, hm.1.keep (fun _ _ _ hc => hc) hN, ?_, fun hn => ?_⟩
  · rcases hk with ⟨_, _, rfl⟩ | ⟨g, rs, _, _, _, ⟨_, _, h3, _⟩, _⟩
    · exact Nat.zero_le _
    · exact h3
  · rcases hk with ⟨_, _, rfl⟩ | ⟨g, rs, hA, hg1, hg2, hrow, hn2⟩
    · exact absurd hn (by simp)
    · have hl := T.Nws.len ks g m hi rs hn2
      have hcs := hrow.cells
      exact ⟨g, 0, hA, hR g (by omega) hg2, T.Nws.In ks g m hi rs 0 R hn2 (fun b hb1 hb2 => hR b (by omega) hb2) (fun i hi' j hj => by rw [Nat.zero_add]; exact hcs i (by omega) j hj)⟩
theorem T.Nws.In {w : World} : ∀ (ks : List T) (g lo hi : Nat) (rs : List Kc) (o : Nat) (R : Nat → Prop), T.Nws w ks g lo hi rs → (∀ b, lo ≤ b → b < hi → R b) → (∀ i, i < rs.length → ∀ j, j < 6 → w.cell? ⟨g, o + (i * 6 + j), Option.none⟩ = (kcl (rs.getD i kc0))[j]?) → T.Ins w R g o ks
 | [], _, _, _, _, _, _, _, _, _ => by simp only [T.Ins]
 | t :: r, g, lo, hi, rs, o, R, h, hR, hc => by
  simp only [T.Nws] at h
  obtain ⟨c, q, a, mid, rfl, h1, h2, hg, ht, hr⟩ := h
  have hle := T.Nws.le r g mid hi q hr
  simp only [T.Ins]
  refine ⟨⟨c.1, c.2.1, c.2.2.1, c.2.2.2.1, c.2.2.2.2.1, c.2.2.2.2.2, ?_, T.Nw.In t a mid c R ht (fun b hb1 hb2 => hR b (by omega) (by omega))⟩, T.Nws.In r g mid hi q (o + 6) R hr (fun b hb1 hb2 => hR b (by omega) hb2) ?_⟩
  · have h0 := hc 0 (by simp)
    simp only [Nat.zero_mul, Nat.zero_add] at h0
    exact ⟨h0 0 (by omega), h0 1 (by omega), h0 2 (by omega), h0 3 (by omega), h0 4 (by omega), h0 5 (by omega)⟩
  · intro i hi' j hj
    have := hc (i + 1) (by simpa using hi') j hj
    rw [show o + 6 + (i * 6 + j) = o + ((i + 1) * 6 + j) by omega, this]
    simp [List.getD]
end
mutual
theorem T.Nw.sp {w : World} {l0 h0 : Nat} : ∀ (t : T) (lo hi : Nat) (v : Kc), T.Nw w t lo hi v → l0 ≤ lo → hi ≤ h0 → T.Sp w (fun b => l0 ≤ b ∧ b < h0) t lo hi v
 | .node k nm ns ng mg ks, lo, hi, v, h, hl, hh => by
  simp only [T.Nw] at h
  simp only [T.Sp]
  obtain ⟨A1, c1, A2, c2, A3, c3, m, e, h1, h2, hs, hm, hk⟩ := h
  refine ⟨A1, _, c1, A2, _, c2, A3, c3, e, by omega, hs.1.1, hs.2.1, ?_, hm.1.1.cap, hm.2.1, ?_, ?_⟩
  · rcases hs.2.2 with h | ⟨g, cs, hA, h3, h4, h5⟩
    · exact .inl h
    · exact .inr ⟨g, cs, hA, h3, by omega, h5⟩
  · rcases hm.2.2 with h | ⟨g, cs, hA, h3, h5⟩
    · exact .inl h
    · exact .inr ⟨g, cs, hA, ⟨by have := h3.1; omega, by have := h3.2; omega⟩, h5⟩
  · rcases hk with h | ⟨g, rs, hA, hg1, hg2, hr, hn⟩
    · exact .inl h
    · exact .inr ⟨g, rs, hA, ⟨by omega, hg2⟩, hr, T.Nws.sp ks g m hi rs hn (by omega) hh lo h1⟩
theorem T.Nws.sp {w : World} {l0 h0 : Nat} : ∀ (ks : List T) (g lo hi : Nat) (rs : List Kc), T.Nws w ks g lo hi rs → l0 ≤ lo → hi ≤ h0 → ∀ lo', lo' ≤ lo → T.Sps w (fun b => l0 ≤ b ∧ b < h0) ks g lo' hi rs
 | [], _, _, _, _, h, _, _, lo', hlo => by simp only [T.Nws] at h; simp only [T.Sps]; exact ⟨h.1, by omega⟩
 | t :: r, g, lo, hi, rs, h, hl, hh, lo', hlo => by
  simp only [T.Nws] at h
  simp only [T.Sps]
  obtain ⟨c, q, a, mid, e, h1, h2, hg, ht, hr⟩ := h
  have hle := T.Nws.le r g mid hi q hr
  exact ⟨c, q, a, mid, e, by omega, h2, hg, T.Nw.sp t a mid c ht (by omega) (by omega), T.Nws.sp r g mid hi q hr (by omega) hh mid (Nat.le_refl _)⟩
end
end
section
open Go.RowKit
theorem clone_x (w : World) (R : Nat → Prop) (A : Option Addr) (c : Nat) (ns : List ByteArray) (h : StrL w R A c ns) (hb : ns.length ≤ 1048576) :
    Calls Tryz.prog 57 #[.slice A ns.length c] w fun e w' => ∃ A' c', e = .returned (.slice A' ns.length c') ∧ NmX w' w.heap.size w'.heap.size A' c' ns ∧ Below w.heap.size w w' := by
  obtain ⟨hcap, hc⟩ := h
  have hnone : ns.length = 0 → ∀ (w' : World) (A' : Option Addr) (c' : Nat), c' ≤ maxLen → Nz w' w.heap.size w'.heap.size A' c' → NmX w' w.heap.size w'.heap.size A' c' ns := fun h0 w' A' c' hc hz => ⟨⟨by omega, fun hn => by omega⟩, hc, hz⟩
  by_cases h0 : ns.length = 0
  ·
   rw [h0]
   cases A with
   | none =>
    refine (Tryz.slices_Clone_string_nil 0 c w).mono ?_
    rintro e w' ⟨rfl, rfl⟩
    exact ⟨none, 0, rfl, hnone h0 _ _ _ (Nat.zero_le _) (.inl ⟨rfl, rfl⟩), Below.refl _ _⟩
   | some a =>
    refine (Tryz.slices_Clone_string_zero a c w).mono ?_
    rintro e w' ⟨v', rfl, hown, hne, hbw⟩
    obtain ⟨_, ⟨h1, _⟩ | ⟨g', cap', cur, h1, k1, k2, k3, k4, k5, _⟩⟩ := hown
    · exact absurd h1 hne
    · exact ⟨_, _, by rw [h1], hnone h0 _ _ _ k4 (.inr ⟨g', cur, rfl, k1, (Array.getElem?_eq_some_iff.1 k2).1, k2, by omega⟩), hbw⟩
  ·
   obtain ⟨b, o, rfl, _, hcs⟩ := hc (by omega)
   refine (Tryz.slices_Clone_string b o ns.length c ns w (Nat.le_refl _) (by omega) (fun j hj => hcs j hj)).mono ?_
   rintro e w' ⟨v', rfl, hown, hne, hbw⟩
   have hown2 := hown
   obtain ⟨_, ⟨h1, _⟩ | ⟨g', cap', cur, h1, k1, k2, k3, k4, k5, _⟩⟩ := hown2
   · exact absurd h1 hne
   · subst h1
     obtain ⟨hnb, hle⟩ := nb_row hown
     refine ⟨_, cap', rfl, ⟨⟨hle, fun _ => ⟨g', 0, rfl, hnb, fun i hi => ?_⟩⟩, k4, .inr ⟨g', cur, rfl, k1, (Array.getElem?_eq_some_iff.1 k2).1, k2, by omega⟩⟩, hbw⟩
     rw [Nat.zero_add, hown.cellAt i (by simpa using hi), List.take_length]
     simp [List.getD, hi]
theorem norm_x (w : World) (R : Nat → Prop) (ng : Bool) (A : Option Addr) (c : Nat) (mg : List Nat) (h : SlR w R A c mg) (hl : mg.length ≤ 1048576) :
    Calls Tryz.prog 58 #[.agg #[.bool ng, .slice A mg.length c]] w fun e w' => ∃ A' c', e = .returned (.agg #[.bool (nrmS ng mg), .slice A' (nrm mg).length c']) ∧ SmX w' w.heap.size w'.heap.size A' c' (nrm mg) ∧ Below w.heap.size w w' := by
  have hIV : IV w (.agg #[.bool ng, .slice A mg.length c]) 1048576 (sgn ng (N.nv mg)) := ⟨ng, N.nv mg, ⟨_, rfl, A, _, c, mg, rfl, trivial, h.1, rfl, hl⟩, rfl⟩
  refine (norm_n hIV (by omega)).mono ?_
  rintro e w' ⟨u, rfl, ⟨sl, rfl, A', n', c', rfl, _, hs, _⟩, hbw, s', sl', he, hnw⟩
  rw [natAbs_sgn] at hs
  rw [sgn_neg] at he ⊢
  injection he with he
  injection he with he
  simp only [List.cons.injEq, and_true] at he
  obtain ⟨_, rfl⟩ := he
  have hn' : n' = (nrm mg).length := hs.len.symm
  subst hn'
  refine ⟨A', c', rfl, ⟨⟨hs, fun hn ad e => ?_⟩, ?_, ?_⟩, hbw⟩
  ·
   rcases hnw with h0 | ⟨g, n, c2, cs, h0, hb, _, _, hg, _⟩
   · injection h0 with h0
     rw [h0] at e; cases e
   · injection h0 with h0
     rw [h0] at e
     injection e with e
     subst e
     exact ⟨hb, (Array.getElem?_eq_some_iff.1 hg).1, cs, _, hg⟩
  · rcases hnw with h0 | ⟨g, n, c2, cs, h0, hb, k1, k2, hg, k3⟩
    · injection h0 with _ _ h0
      rw [h0]; exact Nat.zero_le _
    · injection h0 with _ _ h0
      rw [h0]; exact k2
  · rcases hnw with h0 | ⟨g, n, c2, cs, h0, hb, k1, k2, hg, k3⟩
    · injection h0 with h1 _ h0
      exact .inl ⟨h1, h0⟩
    · injection h0 with h1 _ h0
      subst h0
      exact .inr ⟨g, cs, h1, ⟨hb, (Array.getElem?_eq_some_iff.1 hg).1⟩, hg, k3⟩
theorem T.Nw.form {w : World} {t : T} {lo hi : Nat} {v : Kc} (h : T.Nw w t lo hi v) : ∃ A1 c1 A2 c2 A3 c3, v = tc t.k t.nm A1 t.ns.length c1 t.ng A2 t.mg.length c2 A3 t.ks.length c3 := by
 cases t
 simp only [T.Nw] at h
 obtain ⟨A1, c1, A2, c2, A3, c3, m, hv, _⟩ := h
 exact ⟨A1, c1, A2, c2, A3, c3, hv⟩
theorem nws_step {wr w3 w4 : World} {v3 : Value} {m : Nat} {ks : List T} {rs : List Kc} {u : T} {c : Kc} {S S2 g' : Nat} (ho : OutK wr m v3 rs) (hn : ∀ g, v3.ownBlock = some g → T.Nws wr ks g m wr.heap.size rs) (hl : rs.length = ks.length) (hm : m ≤ wr.heap.size)
    (h1 : Below wr.heap.size wr w3) (hS : wr.heap.size ≤ S) (hu : T.Nw w3 u S S2 c) (hS2 : S2 ≤ w3.heap.size) (hg : w3.grownBy w4 v3.ownBlock) (hor : v3.ownBlock = some g' ∨ w3.heap.size ≤ g') : T.Nws w4 (ks ++ [u]) g' m w4.heap.size (rs ++ [c]) := by
  have hsz := hg.size
  have hle := hu.le
  rcases ho with ⟨rfl, rfl⟩ | ⟨g0, cap, cur, rfl, hb, hc, _⟩
  ·
   have hk : ks = [] := List.eq_nil_of_length_eq_zero (by rw [← hl]; rfl)
   subst hk
   have hg' : w3.heap.size ≤ g' := by
    rcases hor with h | h
    · cases h
    · exact h
   have hu' := T.Nw.keep (w' := w4) u S S2 c hu (fun b hb1 hb2 => hg.block b (by omega) (by simp [Value.ownBlock]))
   simp only [List.nil_append, T.Nws]
   exact ⟨c, [], S, S2, rfl, by omega, hle, .inr (by omega), hu', rfl, by omega⟩
  ·
   have hlt : g0 < wr.heap.size := (Array.getElem?_eq_some_iff.1 hc).1
   have hsz1 := h1.size
   have hnn := hn g0 rfl
   have hne : ∀ b, b ≠ g0 → some b ≠ (Value.slice (some ⟨g0, 0, none⟩) rs.length cap).ownBlock := fun b hb e => hb (by simpa [Value.ownBlock] using e)
   have hk := T.Nws.keep (w' := w4) ks g0 m wr.heap.size rs hnn (fun b hb1 hb2 hb3 => (hg.block b (by omega) (hne b hb3)).trans (h1.block b hb2))
   have hu' := T.Nw.keep (w' := w4) u S S2 c hu (fun b hb1 hb2 => hg.block b (by omega) (hne b (by omega)))
   have hk2 := T.Nws.hi ks g0 m _ S rs hk hS
   refine T.Nws.hi _ g' m S2 w4.heap.size _ ?_ (by omega)
   rcases hor with h | h
   · have e : g0 = g' := by simpa [Value.ownBlock] using h
     subst e
     exact T.Nws.snoc ks g0 m S S2 rs u c hk2 hu' (.inl (by omega))
   · exact T.Nws.snoc ks g' m S S2 rs u c (T.Nws.apart ks g0 g' m S rs hk2 (by omega)) hu' (.inr (by omega))
theorem Nw.mk {w : World} {k : Int} {nm : ByteArray} {ns : List ByteArray} {ng : Bool} {mg : List Nat} {ks : List T} {rs : List Kc} {lo m : Nat} {A1 : Option Addr} {c1 : Nat} {A2 : Option Addr} {c2 : Nat} {A3 : Option Addr} {c3 : Nat}
    (h1 : lo ≤ m) (h2 : m ≤ w.heap.size) (hs : NmX w lo m A1 c1 ns) (hm : SmX w lo m A2 c2 mg) (ho : OutK w m (.slice A3 rs.length c3) rs) (hl : rs.length = ks.length) (hn : ∀ g, (Value.slice A3 rs.length c3).ownBlock = some g → T.Nws w ks g m w.heap.size rs) :
    T.Nw w (.node k nm ns ng mg ks) lo w.heap.size (tc k nm A1 ns.length c1 ng A2 mg.length c2 A3 rs.length c3) := by
  simp only [T.Nw]
  refine ⟨A1, c1, A2, c2, A3, c3, m, by rw [hl], h1, h2, hs, hm, ?_⟩
  rcases ho.row with ⟨h, rfl⟩ | ⟨g, c, h, hb, hlt, hrow⟩
  · injection h with h3 _ h4
    exact .inl ⟨h3, h4, List.eq_nil_of_length_eq_zero (by rw [← hl]; rfl)⟩
  · injection h with h3 _ h4
    subst h3; subst h4
    exact .inr ⟨g, rs, rfl, hb, hlt, by rw [← hl]; exact hrow, hn g rfl⟩
set_option maxRecDepth 100000 in
set_option maxHeartbeats 6400000 in
theorem copy_w : ∀ (N : Nat) (t : T) (w : World) (R : Nat → Prop) (v : Value), t.bulk ≤ N → N ≤ 1048576 → T.In w R t v →
    Calls Tryz.prog 27 #[v] w fun e w' => ∃ c, e = .returned (kv c) ∧ T.Nw w' t.cp w.heap.size w'.heap.size c ∧ Below w.heap.size w w'
  | 0, t, _, _, _, hN, _, _ => by have := T.bulk_pos t; omega
  | N + 1, t, w, R, v, hN, hN2, h => by
   have ih := copy_w N
   obtain ⟨A1, c1, A2, c2, A3, c3, rfl, hnames, hmag, hc3, hkids⟩ := h.open
   obtain ⟨n, hn⟩ : ∃ n, t.ks.length = n := ⟨_, rfl⟩
   obtain ⟨hl1, hl2, hl3, hl4, hlen⟩ := T.len_le hN
   rw [hn] at hkids hc3 hlen ⊢
   have HN := Lib.hid hn
   have HK := Lib.hid hkids
   have HB := Lib.hid hN
   have HNM := Lib.hid hnames
   have HMG := Lib.hid hmag
   clear hn hkids hN h hnames hmag
   go_enter Tryz.func27, Tryz.ntmps27
   go_upto_region 1 with (fail)
   obtain ⟨W1, hW1, pt, hb1⟩ := made_blk w #[.int .i64 t.k, .string t.nm, .slice A1 t.ns.length c1, .bool t.ng, .slice A2 t.mg.length c2, .slice A3 n c3] 28
   have hsz1 : W1.heap.size = w.heap.size + 1 := by rw [hW1]; simp
   obtain ⟨Bt, hBt⟩ : ∃ b, b = w.heap.size := ⟨_, rfl⟩
   rw [← hW1, ← hBt]
   rw [← hBt] at pt hsz1
   obtain ⟨W2, hW2, pr, hb2⟩ := made_blk W1 #[.int .i64 0, .string ⟨#[]⟩, .slice none 0 0, .bool false, .slice none 0 0, .slice none 0 0] 28
   rw [← hW2]
   rw [hsz1] at pr
   have pt := pt.below hb2
   have hb1 := below_on hb1 hb2
   have hsz2 : W2.heap.size = Bt + 2 := by rw [hW2]; simp [hsz1]
   have HBt := Lib.hid hBt
   clear hW1 hW2 hb2 hBt hsz1
   obtain ⟨x0, x1, x2, x3, x4, x5⟩ := pt.six
   have HST := Lib.hid (HNM.out.below hb1)
   have HS2 := Lib.hid hsz2
   clear hsz2
   go_upto_region 2 with (go_at_call 57; refine (clone_x _ R _ _ _ HST.out (by omega)).mono ?_; rintro e w3 ⟨E1, d1, rfl, hs1, hb3⟩; have pt3 := pt.below hb3; have fr3 := pt3.free 2; obtain ⟨z0, z1, z2, z3, z4, z5⟩ := pt3.six)
   have pr3 := pr.below hb3
   have hb4 := below_on hb1 hb3
   have hge3 : Bt + 2 ≤ w3.heap.size := by rw [← HS2.out]; exact hb3.size
   clear z0 z1 z2 z3 z4 z5 fr3 x0 x1 x2 x3 x4 x5
   obtain ⟨W4, hW4⟩ : ∃ W, W = w3.setCell ⟨Bt, 2, none⟩ (.slice E1 t.ns.length d1) := ⟨_, rfl⟩
   have pt4 : Blk W4 Bt 28 #[.int .i64 t.k, .string t.nm, .slice E1 t.ns.length d1, .bool t.ng, .slice A2 t.mg.length c2, .slice A3 n c3] := by rw [hW4]; exact pt3.put 2 _
   have pr4 : Blk W4 (Bt + 1) 28 #[.int .i64 0, .string ⟨#[]⟩, .slice none 0 0, .bool false, .slice none 0 0, .slice none 0 0] := by rw [hW4]; exact pr3.far (by omega) 2 _
   have hb5 : Below w.heap.size w W4 := by rw [hW4]; exact hb4.setCell (by rw [← HBt.out]; exact Nat.le_refl _) _
   have hsz4 : W4.heap.size = w3.heap.size := by rw [hW4]; simp
   have hs4 : NmX W4 (Bt + 2) W4.heap.size E1 d1 t.ns := hs1.up (by rw [HS2.out]; exact Nat.le_refl _) (by omega) (fun b hb1 _ => by rw [hW4]; exact Below.heap_setCell _ _ _ _ (by have := HS2.out; show b ≠ Bt; omega))
   rw [← hW4]
   clear hW4 pt3 pr3 hb4 hs1 hb3
   rw [hsz4] at hs4
   obtain ⟨x0, x1, x2, x3, x4, x5⟩ := pt4.six
   have HST4 := Lib.hid hs4
   have HS4 := Lib.hid hsz4
   have HM4 := Lib.hid (HMG.out.below hb5)
   clear hs4 hsz4 pt pr hb1
   go_upto_region 3 with (go_at_call 58; refine (norm_x _ R _ _ _ _ HM4.out (by omega)).mono ?_; rintro e w5 ⟨E2, d2, rfl, hs1, hb3⟩; have pt3 := pt4.below hb3; have fr3 := pt3.free 3; have fr4 := pt3.free 4; obtain ⟨z0, z1, z2, z3, z4, z5⟩ := pt3.six)
   have pr3 := pr4.below hb3
   have hb6 := below_on hb5 hb3
   have hge5 : w3.heap.size ≤ w5.heap.size := by have := hb3.size; have := HS4.out; omega
   clear z0 z1 z2 z3 z4 z5 fr3 fr4 x0 x1 x2 x3 x4 x5
   obtain ⟨W6, hW6⟩ : ∃ W, W = (w5.setCell ⟨Bt, 3, none⟩ (.bool (nrmS t.ng t.mg))).setCell ⟨Bt, 4, none⟩ (.slice E2 (nrm t.mg).length d2) := ⟨_, rfl⟩
   have pt6 : Blk W6 Bt 28 #[.int .i64 t.k, .string t.nm, .slice E1 t.ns.length d1, .bool (nrmS t.ng t.mg), .slice E2 (nrm t.mg).length d2, .slice A3 n c3] := by rw [hW6]; exact (pt3.put 3 _).put 4 _
   have pr6 : Blk W6 (Bt + 1) 28 #[.int .i64 0, .string ⟨#[]⟩, .slice none 0 0, .bool false, .slice none 0 0, .slice none 0 0] := by rw [hW6]; exact (pr3.far (by omega) 3 _).far (by omega) 4 _
   have hb7 : Below w.heap.size w W6 := by rw [hW6]; exact (hb6.setCell (by rw [← HBt.out]; exact Nat.le_refl _) _).setCell (by rw [← HBt.out]; exact Nat.le_refl _) _
   have hsz6 : W6.heap.size = w5.heap.size := by rw [hW6]; simp
   have hfar6 : ∀ b, b ≠ Bt → W6.heap[b]? = w5.heap[b]? := fun b hb => by rw [hW6]; exact (Below.heap_setCell _ _ _ _ hb).trans (Below.heap_setCell _ _ _ _ hb)
   have hs6 : NmX W6 (Bt + 2) W6.heap.size E1 d1 t.ns := HST4.out.up (Nat.le_refl _) (by omega) (fun b hb1 hb2 => (hfar6 b (by omega)).trans (hb3.block b (by rw [HS4.out]; exact hb2)))
   have hm6 : SmX W6 (Bt + 2) W6.heap.size E2 d2 (nrm t.mg) := hs1.up (by rw [HS4.out]; exact hge3) (by omega) (fun b hb1 _ => hfar6 b (by have := HS4.out; omega))
   rw [← hW6]
   clear hW6 pt3 pr3 hb6 hs1 hb3 hfar6 pt4 pr4 hb5 HST4 HM4
   have hge6 : Bt + 2 ≤ W6.heap.size := by omega
   have HS6 := Lib.hid hs6
   have HM6 := Lib.hid hm6
   have hmb6 : Below W6.heap.size W6 W6 := Below.refl _ _
   clear hs6 hm6 hsz6 hge3 hge5 HS4 HS2
   obtain ⟨x0, x1, x2, x3, x4, x5⟩ := pt6.six
   obtain ⟨i0, hinfo, iz0, iz1, iz2⟩ := tree_info
   go_wp2_with fail
   go_loopg [3, 17] (n + 1) (fun gk v3 v17 wr => ∃ (i : Nat) (rs : List Kc), gk + i = n + 1 ∧ i ≤ n ∧ v17 = .int .i64 (i : Nat) ∧ OutK wr W6.heap.size v3 rs ∧ rs.length = i ∧ (∀ g, v3.ownBlock = some g → T.Nws wr (T.cps (t.ks.take i)) g W6.heap.size wr.heap.size rs) ∧ Below W6.heap.size W6 wr)
   case atStart => exact ⟨0, [], by omega, Nat.zero_le _, rfl, OutK.nil _ _, rfl, (fun g e => by cases e), Below.refl _ _⟩
   case round =>
    clear x0 x1 x2 x3 x4 x5
    obtain ⟨i, rs, hi, hin, rfl, hO, hrl, hnw, hS⟩ := hrel
    by_cases hlt : i < n
    ·
     have hi3 : decide (i < n) = true := decide_eq_true hlt
     have hsn := T.cps_snoc (t.ks.take i) (t.ks.getD i t0)
     rw [← take_snoc _ t0 _ (by rw [HN.out]; exact hlt)] at hsn
     have hcl : rs.length = (T.cps (t.ks.take i)).length := by rw [T.cps_len, List.length_take, HN.out, hrl]; omega
     have HCL := Lib.hid hcl
     have HSN := Lib.hid hsn
     have HRL := Lib.hid hrl
     have HO := Lib.hid hO
     have HNW := Lib.hid hnw
     have hlen2 : rs.length < 1048576 := by omega
     clear hcl hsn hrl hO hnw
     obtain ⟨b, o, rfl, hk⟩ := HK.out (by omega)
     have hkd := hk i hlt
     obtain ⟨u, hu⟩ : ∃ u, t.ks.getD i t0 = u := ⟨_, rfl⟩
     rw [hu] at hkd
     have hub : u.bulk ≤ N := by rw [← hu]; exact T.kid_bulk HB.out (by rw [HN.out]; exact hlt)
     have HU := Lib.hid hu
     clear hk hu
     obtain ⟨B1, e1, B2, e2, B3, e3, h6, hkin⟩ := hkd.below (below_on hb7 hS)
     have hal := below_alloc1 wr (.cells #[.int .i64 u.k, .string u.nm, .slice B1 u.ns.length e1, .bool u.ng, .slice B2 u.mg.length e2, .slice B3 u.ks.length e3] 28)
     have HI := Lib.hid (hkin.below hal)
     have HAL := Lib.hid hal
     clear hkin hal hkd
     obtain ⟨y0, y1, y2, y3, y4, y5⟩ := h6
     have hi0 : (0 : Int) ≤ i := by omega
     have hi1 : (i : Int) < n := by omega
     have hS3 := hS.size
     go_wp2_with (first
      | (go_at_call 27; refine (ih u _ R _ hub (by omega) HI.out).mono ?_; rintro e w2 ⟨c, rfl, hNew, hb2⟩; obtain ⟨q, hq⟩ : ∃ q, T.cp u = q := ⟨_, rfl⟩; rw [hq] at hNew; have HQ := Lib.hid hq; clear hq; have HNEW := Lib.hid hNew; obtain ⟨F1, f1, F2, f2, F3, f3, rfl⟩ := hNew.form; clear hNew)
      | (at_builtin; have hb8 := below_on (below_on HAL.out hb2) (below_alloc1 w2 (.cells #[.int .i64 q.k, .string q.nm, .slice F1 q.ns.length f1, .bool q.ng, .slice F2 q.mg.length f2, .slice F3 q.ks.length f3] 28)); refine wpList_append_kid _ rfl (.tmp 21) (.tmp 24) 26 rfl W6.heap.size i0 Tryz.underlying26 hinfo iz0 iz1 iz2 _ rs rfl (HO.out.below hb8) _ 1 (tc q.k q.nm F1 q.ns.length f1 q.ng F2 q.mg.length f2 F3 q.ks.length f3) rfl (kid_cells (Blk.new _ _ _)) (tc_one _ _ _ _ _ _ _ _ _ _ _ _) hlen2 (Nat.le_trans hS3 hb8.size) ?_; intro g' cap w4 ho4 hg4 hor))
     have hb9 : Below W6.heap.size W6 w4 := (below_on hS hb8).grown hg4 (Nat.le_trans hS3 hb8.size) (fun k hk => HO.out.base_le k hk)
     have HO4 := Lib.hid ho4
     have HNN : Hid (T.Nws w4 (T.cps (t.ks.take (i + 1))) g' W6.heap.size w4.heap.size (rs ++ [tc q.k q.nm F1 q.ns.length f1 q.ng F2 q.mg.length f2 F3 q.ks.length f3])) := Lib.hid (by
      rw [HSN.out, HU.out, HQ.out]
      exact nws_step HO.out HNW.out HCL.out hS3 hb8 HAL.out.size (HNEW.out.below (Nat.le_refl _) (below_alloc1 _ _)) (below_alloc1 w2 _).size hg4 hor)
     clear ho4 hg4 hor hb8 y0 y1 y2 y3 y4 y5
     go_wp2_with fail
     go_roundg (n - i)
     case measure => omega
     case rel => exact ⟨i + 1, _, by omega, by omega, by go_num, HO4.out, by simp [HRL.out], (fun g e => by have e : some g' = some g := e; injection e with e; subst e; exact HNN.out), hb9⟩
    ·
     have hi3 : decide (i < n) = false := decide_eq_false hlt
     obtain rfl : i = n := by omega
     have htk : t.ks.take i = t.ks := by rw [← HN.out, List.take_length]
     rw [htk] at hnw
     obtain ⟨E3, d3, rfl⟩ := hO.slice
     have hpt := pt6.below hS
     have hpr := pr6.below hS
     have hge9 : W6.heap.size ≤ wr.heap.size := hS.size
     have fr5 := hpt.free 5
     obtain ⟨x0, x1, x2, x3, x4, x5⟩ := hpt.six
     have HO := Lib.hid hO
     have HNW := Lib.hid hnw
     have HRL := Lib.hid hrl
     clear hO hnw htk hrl
     go_upto_region 10 with (fail)
     clear x0 x1 x2 x3 x4 x5 fr5
     obtain ⟨W7, hW7⟩ : ∃ W, W = wr.setCell ⟨Bt, 5, none⟩ (.slice E3 rs.length d3) := ⟨_, rfl⟩
     have pt7 : Blk W7 Bt 28 #[.int .i64 t.k, .string t.nm, .slice E1 t.ns.length d1, .bool (nrmS t.ng t.mg), .slice E2 (nrm t.mg).length d2, .slice E3 rs.length d3] := by rw [hW7]; exact hpt.put 5 _
     have pr7 : Blk W7 (Bt + 1) 28 #[.int .i64 0, .string ⟨#[]⟩, .slice none 0 0, .bool false, .slice none 0 0, .slice none 0 0] := by rw [hW7]; exact hpr.far (by omega) 5 _
     have hfar7 : ∀ b, b ≠ Bt → W7.heap[b]? = wr.heap[b]? := fun b hb => by rw [hW7]; exact Below.heap_setCell _ _ _ _ hb
     have hsz7 : W7.heap.size = wr.heap.size := by rw [hW7]; simp
     have hb10 : Below w.heap.size w W7 := by rw [hW7]; exact (below_on hb7 hS).setCell (by rw [← HBt.out]; exact Nat.le_refl _) _
     rw [← hW7]
     clear hW7 hpt hpr
     obtain ⟨x0, x1, x2, x3, x4, x5⟩ := pt7.six
     have fr0 := pr7.free 0
     have fr1 := pr7.free 1
     have fr2 := pr7.free 2
     have fr3 := pr7.free 3
     have fr4 := pr7.free 4
     have fr5 := pr7.free 5
     obtain ⟨y0, y1, y2, y3, y4, y5⟩ := pr7.six
     go_wp2_with fail
     refine bodyPost_ret (results_cell_row rfl _ _ _ _ _ _ _ rfl ((((((pr7.put 0 _).put 1 _).put 2 _).put 3 _).put 4 _).put 5 _) Tryz.underlying28 rfl sizeTree) rfl ?_
     refine ⟨tc t.k t.nm E1 t.ns.length d1 (nrmS t.ng t.mg) E2 (nrm t.mg).length d2 E3 rs.length d3, rfl, ?_, ?_⟩
     ·
      have hfar8 : ∀ b, b ≠ Bt → b ≠ Bt + 1 → (((((((W7.setCell ⟨Bt + 1, 0, none⟩ (.int .i64 t.k)).setCell ⟨Bt + 1, 1, none⟩ (.string t.nm)).setCell ⟨Bt + 1, 2, none⟩ (.slice E1 t.ns.length d1)).setCell ⟨Bt + 1, 3, none⟩ (.bool (nrmS t.ng t.mg))).setCell ⟨Bt + 1, 4, none⟩ (.slice E2 (nrm t.mg).length d2)).setCell ⟨Bt + 1, 5, none⟩ (.slice E3 rs.length d3)).heap[b]? = wr.heap[b]?) := fun b h1 h2 =>
       (((((Below.heap_setCell _ ⟨Bt + 1, 5, none⟩ _ _ h2).trans (Below.heap_setCell _ ⟨Bt + 1, 4, none⟩ _ _ h2)).trans (Below.heap_setCell _ ⟨Bt + 1, 3, none⟩ _ _ h2)).trans (Below.heap_setCell _ ⟨Bt + 1, 2, none⟩ _ _ h2)).trans (Below.heap_setCell _ ⟨Bt + 1, 1, none⟩ _ _ h2)).trans ((Below.heap_setCell _ ⟨Bt + 1, 0, none⟩ _ _ h2).trans (hfar7 b h1))
      rw [T.cp_eq]
      have hks : rs.length = (T.cps t.ks).length := by rw [T.cps_len, HN.out, HRL.out]
      refine Nw.mk (m := W6.heap.size) (by have := HBt.out; omega) (by simp only [World.size_setCell]; omega) ?_ ?_ ?_ hks ?_
      · exact HS6.out.up (by have := HBt.out; omega) (Nat.le_refl _) (fun b h1 h2 => (hfar8 b (by omega) (by omega)).trans (hS.block b h2))
      · exact HM6.out.up (by have := HBt.out; omega) (Nat.le_refl _) (fun b h1 h2 => (hfar8 b (by omega) (by omega)).trans (hS.block b h2))
      · exact HO.out.far hge9 (fun b h1 _ => hfar8 b (by omega) (by omega))
      · intro g e
        have := T.Nws.keep _ g _ _ rs (HNW.out g e) (fun b h1 h2 _ => hfar8 b (by omega) (by omega))
        exact T.Nws.hi _ g _ _ _ rs this (by simp only [World.size_setCell]; omega)
     · have hB : w.heap.size ≤ Bt + 1 := by have := HBt.out; omega
       exact (((((hb10.setCell hB _).setCell hB _).setCell hB _).setCell hB _).setCell hB _).setCell hB _
end
section
open Go.RowKit
def kcm : Kc := (.int .i64 77, .string ⟨#[]⟩, .slice none 0 0, .bool false, .slice none 0 0, .slice none 0 0)
def nmk : ByteArray := ⟨#[109, 97, 114, 107]⟩
def magC (mg : List Nat) : List Value := lv mg ++ [.int .u32 77, .int .u32 0]
def nameC (ns : List ByteArray) : List Value := ns.map Value.string ++ [.string nmk, .string ⟨#[]⟩]
abbrev lc (k : Int) (nm : ByteArray) (gn n1 : Nat) (ng : Bool) (gm n2 gk n3 : Nat) : Kc := (.int .i64 k, .string nm, .slice (some ⟨gn, 0, none⟩) n1 (n1 + 2), .bool ng, .slice (some ⟨gm, 0, none⟩) n2 (n2 + 2), .slice (some ⟨gk, 0, none⟩) n3 (n3 + 1))
mutual
def T.Lent (w : World) (lo hi : Nat) : T → Kc → Prop
 | .node k nm ns ng mg ks, c => ∃ gn gm gk rs, c = lc k nm gn ns.length ng gm mg.length gk ks.length ∧ (lo ≤ gn ∧ gn < hi) ∧ (lo ≤ gm ∧ gm < hi) ∧ (lo ≤ gk ∧ gk < hi) ∧ N.Lim mg ∧
  Blk w gn 9 (nameC ns).toArray ∧ Blk w gm 69 (magC mg).toArray ∧ Blk w gk 28 (kcs rs ++ kcl kcm).toArray ∧ T.Lents w lo hi ks rs
def T.Lents (w : World) (lo hi : Nat) : List T → List Kc → Prop
 | [], rs => rs = []
 | t :: r, rs => ∃ c q, rs = c :: q ∧ T.Lent w lo hi t c ∧ T.Lents w lo hi r q
end
mutual
theorem T.Lent.keep {w w' : World} {lo hi lo' hi' : Nat} (h1 : lo' ≤ lo) (h2 : hi ≤ hi') (hb : ∀ b, lo ≤ b → b < hi → w'.heap[b]? = w.heap[b]?) : ∀ (t : T) (c : Kc), T.Lent w lo hi t c → T.Lent w' lo' hi' t c
 | .node k nm ns ng mg ks, c, h => by
  simp only [T.Lent] at h ⊢
  obtain ⟨gn, gm, gk, rs, e, ⟨a1, a2⟩, ⟨b1, b2⟩, ⟨c1, c2⟩, hl, k1, k2, k3, hk⟩ := h
  exact ⟨gn, gm, gk, rs, e, ⟨by omega, by omega⟩, ⟨by omega, by omega⟩, ⟨by omega, by omega⟩, hl, (hb gn a1 a2).trans k1, (hb gm b1 b2).trans k2, (hb gk c1 c2).trans k3, T.Lents.keep h1 h2 hb ks rs hk⟩
theorem T.Lents.keep {w w' : World} {lo hi lo' hi' : Nat} (h1 : lo' ≤ lo) (h2 : hi ≤ hi') (hb : ∀ b, lo ≤ b → b < hi → w'.heap[b]? = w.heap[b]?) : ∀ (ks : List T) (rs : List Kc), T.Lents w lo hi ks rs → T.Lents w' lo' hi' ks rs
 | [], _, h => by simp only [T.Lents] at h ⊢; exact h
 | t :: r, rs, h => by
  simp only [T.Lents] at h ⊢
  obtain ⟨c, q, e, ht, hr⟩ := h
  exact ⟨c, q, e, T.Lent.keep h1 h2 hb t c ht, T.Lents.keep h1 h2 hb r q hr⟩
end
theorem T.Lent.below {w w' : World} {lo hi : Nat} {t : T} {c : Kc} (h : T.Lent w lo hi t c) (hh : hi ≤ w.heap.size) (hb : Below w.heap.size w w') : T.Lent w' lo hi t c :=
 T.Lent.keep (Nat.le_refl _) (Nat.le_refl _) (fun b _ h2 => hb.block b (by omega)) t c h
theorem T.Lents.len {w : World} {lo hi : Nat} : ∀ (ks : List T) (rs : List Kc), T.Lents w lo hi ks rs → rs.length = ks.length
 | [], _, h => by simp only [T.Lents] at h; rw [h]; rfl
 | t :: r, rs, h => by
  simp only [T.Lents] at h
  obtain ⟨c, q, rfl, _, hr⟩ := h
  have := T.Lents.len r q hr
  simp [this]
theorem T.Lents.snoc {w : World} {lo hi : Nat} {t : T} {c : Kc} (ht : T.Lent w lo hi t c) : ∀ (ks : List T) (rs : List Kc), T.Lents w lo hi ks rs → T.Lents w lo hi (ks ++ [t]) (rs ++ [c])
 | [], rs, h => by
  simp only [T.Lents] at h
  subst h
  simp only [List.nil_append, T.Lents]
  exact ⟨c, [], rfl, ht, rfl⟩
 | u :: r, rs, h => by
  simp only [T.Lents] at h
  obtain ⟨d, q, rfl, hu, hr⟩ := h
  simp only [List.cons_append, T.Lents]
  exact ⟨d, q ++ [c], rfl, hu, T.Lents.snoc ht r q hr⟩
theorem T.Lents.get {w : World} {lo hi : Nat} : ∀ (ks : List T) (rs : List Kc) (i : Nat), T.Lents w lo hi ks rs → i < ks.length → T.Lent w lo hi (ks.getD i t0) (rs.getD i kc0)
 | [], _, i, _, hi => absurd hi (by simp)
 | t :: r, rs, 0, h, _ => by
  simp only [T.Lents] at h
  obtain ⟨c, q, rfl, ht, _⟩ := h
  exact ht
 | t :: r, rs, i + 1, h, hi => by
  simp only [T.Lents] at h
  obtain ⟨c, q, rfl, _, hr⟩ := h
  have := T.Lents.get r q i hr (by simpa using hi)
  simpa using this
section
variable {w w' : World} {b : Nat} {l xs : List Value} {t : TypeId}
theorem Blk.celll (h : Blk w b t l.toArray) (i : Nat) : w.cell? ⟨b, i, none⟩ = l[i]? := by
 have := h.cell i
 simpa using this
theorem magC_get {mg : List Nat} {i : Nat} (h : i < mg.length) : (magC mg)[i]? = some (.int .u32 (N.dg mg i : Nat)) := by
 unfold magC
 rw [List.getElem?_append_left (by rw [lv_length]; exact h)]
 exact lv_get mg i h
theorem magC_mark (mg : List Nat) : (magC mg)[mg.length]? = some (.int .u32 77) := by
 unfold magC
 rw [List.getElem?_append_right (by rw [lv_length]; exact Nat.le_refl _), lv_length, Nat.sub_self]
 rfl
theorem nameC_get {ns : List ByteArray} {i : Nat} (h : i < ns.length) : (nameC ns)[i]? = some (.string (ns.getD i ⟨#[]⟩)) := by
 unfold nameC
 rw [List.getElem?_append_left (by simpa using h)]
 simp [List.getD, h]
theorem nameC_mark (ns : List ByteArray) : (nameC ns)[ns.length]? = some (.string nmk) := by
 unfold nameC
 rw [List.getElem?_append_right (by simp)]
 simp
theorem kidC_get {rs : List Kc} {i j : Nat} (h : i < rs.length) (hj : j < 6) : (kcs rs ++ kcl kcm)[i * 6 + j]? = (kcl (rs.getD i kc0))[j]? := by
 rw [List.getElem?_append_left (by rw [kcs_length]; omega), kcs_get _ _ _ h hj]
theorem kidC_mark (rs : List Kc) : (kcs rs ++ kcl kcm)[rs.length * 6]? = some (.int .i64 77) := by
 rw [List.getElem?_append_right (by rw [kcs_length]; exact Nat.le_refl _), kcs_length, Nat.sub_self]
 rfl
end
mutual
theorem T.Lent.In {w : World} {lo hi : Nat} {R : Nat → Prop} (hR : ∀ b, lo ≤ b → b < hi → R b) : ∀ (t : T) (c : Kc), T.Lent w lo hi t c → T.In w R t (kv c)
 | .node k nm ns ng mg ks, c, h => by
  simp only [T.Lent] at h
  obtain ⟨gn, gm, gk, rs, rfl, ⟨a1, a2⟩, ⟨b1, b2⟩, ⟨c1, c2⟩, hl, k1, k2, k3, hk⟩ := h
  have hrl := T.Lents.len ks rs hk
  simp only [T.In]
  refine ⟨_, _, _, _, _, _, rfl, ⟨by omega, fun _ => ⟨gn, 0, rfl, hR gn a1 a2, fun i hi => ?_⟩⟩, ⟨⟨rfl, by omega, hl, fun _ => ⟨gm, 0, rfl, fun i hi => ?_⟩⟩, fun _ ad e => by injection e with e; subst e; exact hR gm b1 b2⟩, by omega, fun _ => ⟨gk, 0, rfl, hR gk c1 c2, ?_⟩⟩
  · rw [Nat.zero_add, k1.celll, nameC_get hi]
  · rw [Nat.zero_add, k2.celll, magC_get hi]
  · exact T.Lents.In hR gk ks rs 0 hk (fun i hi j hj => by rw [Nat.zero_add, k3.celll, kidC_get hi hj])
theorem T.Lents.In {w : World} {lo hi : Nat} {R : Nat → Prop} (hR : ∀ b, lo ≤ b → b < hi → R b) (g : Nat) : ∀ (ks : List T) (rs : List Kc) (o : Nat), T.Lents w lo hi ks rs → (∀ i, i < rs.length → ∀ j, j < 6 → w.cell? ⟨g, o + (i * 6 + j), Option.none⟩ = (kcl (rs.getD i kc0))[j]?) → T.Ins w R g o ks
 | [], _, _, _, _ => by simp only [T.Ins]
 | t :: r, rs, o, h, hc => by
  simp only [T.Lents] at h
  obtain ⟨c, q, rfl, ht, hr⟩ := h
  simp only [T.Ins]
  refine ⟨⟨c.1, c.2.1, c.2.2.1, c.2.2.2.1, c.2.2.2.2.1, c.2.2.2.2.2, ?_, T.Lent.In hR t c ht⟩, T.Lents.In hR g r q (o + 6) hr ?_⟩
  · have h0 := hc 0 (by simp)
    simp only [Nat.zero_mul, Nat.zero_add] at h0
    exact ⟨h0 0 (by omega), h0 1 (by omega), h0 2 (by omega), h0 3 (by omega), h0 4 (by omega), h0 5 (by omega)⟩
  · intro i hi' j hj
    have := hc (i + 1) (by simpa using hi') j hj
    rw [show o + 6 + (i * 6 + j) = o + ((i + 1) * 6 + j) by omega, this]
    simp [List.getD]
end
theorem T.Lent.open {w : World} {lo hi : Nat} {t : T} {c : Kc} (h : T.Lent w lo hi t c) : ∃ gn gm gk rs, c = lc t.k t.nm gn t.ns.length t.ng gm t.mg.length gk t.ks.length ∧ gn < hi ∧ gm < hi ∧ gk < hi ∧ N.Lim t.mg ∧ rs.length = t.ks.length ∧
    Blk w gn 9 (nameC t.ns).toArray ∧ Blk w gm 69 (magC t.mg).toArray ∧ Blk w gk 28 (kcs rs ++ kcl kcm).toArray ∧ T.Lents w lo hi t.ks rs := by
  cases t
  simp only [T.Lent] at h
  obtain ⟨gn, gm, gk, rs, e, h1, h2, h3, hl, k1, k2, k3, hk⟩ := h
  exact ⟨gn, gm, gk, rs, e, h1.2, h2.2, h3.2, hl, T.Lents.len _ _ hk, k1, k2, k3, hk⟩
end
end Go.Proofs.YthiadenmljbdaaaGreatDoor

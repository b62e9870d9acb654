/-
  s: the parts QGot QAns QNot of the proof.
-/
import Derived.Test.YthiadenmljbdaaaGreatDoorB12s
import Derived.Test.YthiadenmljbdaaaGreatDoorB13s
import Derived.Deep.Cut
section
namespace Go.Proofs.YthiadenmljbdaaaGreatDoor
open Go.RowKit
abbrev N0 : Nat → Prop := fun _ => False
def NmE (E : Nat → Prop) (w : World) (lo hi : Nat) (A : Option Addr) (c : Nat) (ns : List ByteArray) : Prop :=
  StrL w (fun b => lo ≤ b ∧ b < hi ∧ ¬ E b) A c ns ∧ c ≤ maxLen ∧ ((A = none ∧ c = 0) ∨ ∃ g cs, A = some ⟨g, 0, none⟩ ∧ (lo ≤ g ∧ g < hi ∧ ¬ E g) ∧ w.heap[g]? = some (.cells cs 9 (0, 0)) ∧ c ≤ cs.size)
abbrev NmR := NmE N0
theorem NmE.nil (E : Nat → Prop) (w : World) (lo hi : Nat) : NmE E w lo hi none 0 [] := ⟨⟨Nat.le_refl _, fun h => absurd h (by simp)⟩, Nat.zero_le _, .inl ⟨rfl, rfl⟩⟩
theorem Lm.nil (w : World) (R0 : Nat → Prop) : Lm w R0 none 0 [] := ⟨⟨Sl.nil _ _ _, fun h => absurd h (by simp)⟩, Nat.zero_le _, .inl ⟨rfl, rfl⟩⟩
theorem NmE.up {E E' : Nat → Prop} {w w' : World} {lo hi lo' hi' : Nat} {A : Option Addr} {c : Nat} {ns : List ByteArray} (h : NmE E w lo hi A c ns) (h1 : lo' ≤ lo) (h2 : hi ≤ hi') (e : ∀ b, lo ≤ b → b < hi → ¬ E b → w'.heap[b]? = w.heap[b]?) (hE : ∀ b, lo ≤ b → b < hi → E' b → E b) : NmE E' w' lo' hi' A c ns := by
  have hb : ∀ b, (lo ≤ b ∧ b < hi ∧ ¬ E b) → (lo' ≤ b ∧ b < hi' ∧ ¬ E' b) := fun b hb => ⟨by have := hb.1; omega, by have := hb.2.1; omega, fun h => hb.2.2 (hE b hb.1 hb.2.1 h)⟩
  refine ⟨h.1.keep (fun p v hp hc => (World.cell?_of_block (a := p) (e _ hp.1 hp.2.1 hp.2.2)).trans hc) hb, h.2.1, ?_⟩
  rcases h.2.2 with h | ⟨g, cs, hA, h3, h5, h6⟩
  · exact .inl h
  · exact .inr ⟨g, cs, hA, hb g h3, (e g h3.1 h3.2.1 h3.2.2).trans h5, h6⟩
mutual
def T.GotE (w : World) (R0 E : Nat → Prop) : T → Nat → Nat → Kc → Prop
  | .node k nm ns ng mg ks, lo, hi, v => ∃ A1 c1 A2 c2 A3 c3, v = tc k nm A1 ns.length c1 ng A2 mg.length c2 A3 ks.length c3 ∧ lo ≤ hi ∧ NmE E w lo hi A1 c1 ns ∧ Lm w R0 A2 c2 mg ∧
    ((A3 = Option.none ∧ c3 = 0 ∧ ks = []) ∨ ∃ g rs, A3 = some ⟨g, 0, Option.none⟩ ∧ (lo ≤ g ∧ g < hi ∧ ¬ E g) ∧ KRow w g ks.length c3 rs ∧ T.GotEs w R0 E ks g lo hi rs)
def T.GotEs (w : World) (R0 E : Nat → Prop) : List T → Nat → Nat → Nat → List Kc → Prop
  | [], _, lo, hi, rs => rs = [] ∧ lo ≤ hi
  | t :: r, g, lo, hi, rs => ∃ c q a mid, rs = c :: q ∧ lo ≤ a ∧ a ≤ mid ∧ (g < a ∨ mid ≤ g) ∧ T.GotE w R0 E t a mid c ∧ T.GotEs w R0 E r g mid hi q
end
section
variable {w w' : World} {R0 E E' : Nat → Prop}
theorem T.GotE.le {t : T} {lo hi : Nat} {v : Kc} (h : T.GotE w R0 E t lo hi v) : lo ≤ hi := by
  cases t
  simp only [T.GotE] at h
  obtain ⟨A1, c1, A2, c2, A3, c3, _, h1, _⟩ := h
  exact h1
theorem T.GotEs.le : ∀ (ks : List T) (g lo hi : Nat) (rs : List Kc), T.GotEs w R0 E ks g lo hi rs → lo ≤ hi
  | [], _, _, _, _, h => by simp only [T.GotEs] at h; exact h.2
  | t :: r, g, lo, hi, rs, h => by
    simp only [T.GotEs] at h
    obtain ⟨c, q, a, mid, _, h1, h2, _, _, h3⟩ := h
    have := T.GotEs.le r g mid hi q h3
    omega
theorem T.GotEs.len : ∀ (ks : List T) (g lo hi : Nat) (rs : List Kc), T.GotEs w R0 E ks g lo hi rs → rs.length = ks.length
  | [], _, _, _, _, h => by simp only [T.GotEs] at h; rw [h.1]; rfl
  | t :: r, g, lo, hi, rs, h => by
    simp only [T.GotEs] at h
    obtain ⟨c, q, a, mid, rfl, h1, h2, _, _, h3⟩ := h
    simp [T.GotEs.len r g mid hi q h3]
theorem T.GotE.form {t : T} {lo hi : Nat} {v : Kc} (h : T.GotE w R0 E t lo hi v) : ∃ A1 c1 A2 c2 A3 c3, v = tc t.k t.nm A1 t.ns.length c1 t.ng A2 t.mg.length c2 A3 t.ks.length c3 := by
  cases t
  simp only [T.GotE] at h
  obtain ⟨A1, c1, A2, c2, A3, c3, e, _⟩ := h
  exact ⟨A1, c1, A2, c2, A3, c3, e⟩
mutual
theorem T.GotE.keep (hk0 : Kp R0 w w') : ∀ (t : T) (lo hi : Nat) (v : Kc), T.GotE w R0 E t lo hi v → (∀ b, lo ≤ b → b < hi → ¬ E b → w'.heap[b]? = w.heap[b]?) → (∀ b, lo ≤ b → b < hi → E' b → E b) → T.GotE w' R0 E' t lo hi v
  | .node k nm ns ng mg ks, lo, hi, v, h, e, hE => by
    simp only [T.GotE] at h ⊢
    obtain ⟨A1, c1, A2, c2, A3, c3, hv, h1, hs, hm, hk⟩ := h
    refine ⟨A1, c1, A2, c2, A3, c3, hv, h1, hs.up (Nat.le_refl _) (Nat.le_refl _) e hE, hm.keep hk0, ?_⟩
    rcases hk with hk | ⟨g, rs, hA, hg, hrow, hn⟩
    · exact .inl hk
    · exact .inr ⟨g, rs, hA, ⟨hg.1, hg.2.1, fun h => hg.2.2 (hE g hg.1 hg.2.1 h)⟩, hrow.same (e g hg.1 hg.2.1 hg.2.2), T.GotEs.keep hk0 ks g lo hi rs hn (fun b hb1 hb2 _ => e b hb1 hb2) hE⟩
theorem T.GotEs.keep (hk0 : Kp R0 w w') : ∀ (ks : List T) (g lo hi : Nat) (rs : List Kc), T.GotEs w R0 E ks g lo hi rs → (∀ b, lo ≤ b → b < hi → b ≠ g → ¬ E b → w'.heap[b]? = w.heap[b]?) → (∀ b, lo ≤ b → b < hi → E' b → E b) → T.GotEs w' R0 E' ks g lo hi rs
  | [], _, _, _, _, h, _, _ => by simp only [T.GotEs] at h ⊢; exact h
  | t :: r, g, lo, hi, rs, h, e, hE => by
    simp only [T.GotEs] at h ⊢
    obtain ⟨c, q, a, mid, hrs, h1, h2, hg, ht, hr⟩ := h
    have hle := T.GotEs.le r g mid hi q hr
    exact ⟨c, q, a, mid, hrs, h1, h2, hg, T.GotE.keep hk0 t a mid c ht (fun b hb1 hb2 => e b (by omega) (by omega) (by omega)) (fun b hb1 hb2 => hE b (by omega) (by omega)), T.GotEs.keep hk0 r g mid hi q hr (fun b hb1 hb2 hb3 => e b (by omega) hb2 hb3) (fun b hb1 hb2 => hE b (by omega) hb2)⟩
end
theorem T.GotEs.hi : ∀ (ks : List T) (g lo hi hi' : Nat) (rs : List Kc), T.GotEs w R0 E ks g lo hi rs → hi ≤ hi' → T.GotEs w R0 E ks g lo hi' rs
  | [], _, _, _, _, _, h, hh => by simp only [T.GotEs] at h ⊢; exact ⟨h.1, by omega⟩
  | t :: r, g, lo, hi, hi', rs, h, hh => by
    simp only [T.GotEs] at h ⊢
    obtain ⟨c, q, a, mid, hrs, h1, h2, hg, ht, hr⟩ := h
    exact ⟨c, q, a, mid, hrs, h1, h2, hg, ht, T.GotEs.hi r g mid hi hi' q hr hh⟩
theorem T.GotEs.lo : ∀ (ks : List T) (g lo lo' hi : Nat) (rs : List Kc), T.GotEs w R0 E ks g lo hi rs → lo' ≤ lo → T.GotEs w R0 E ks g lo' hi rs
  | [], _, _, _, _, _, h, hh => by simp only [T.GotEs] at h ⊢; exact ⟨h.1, by omega⟩
  | t :: r, g, lo, lo', hi, rs, h, hh => by
    simp only [T.GotEs] at h ⊢
    obtain ⟨c, q, a, mid, hrs, h1, h2, hg, ht, hr⟩ := h
    exact ⟨c, q, a, mid, hrs, by omega, h2, hg, ht, hr⟩
theorem T.GotEs.apart : ∀ (ks : List T) (g g' lo hi : Nat) (rs : List Kc), T.GotEs w R0 E ks g lo hi rs → hi ≤ g' → T.GotEs w R0 E ks g' lo hi rs
  | [], _, _, _, _, _, h, hh => by simp only [T.GotEs] at h ⊢; exact h
  | t :: r, g, g', lo, hi, rs, h, hh => by
    simp only [T.GotEs] at h ⊢
    obtain ⟨c, q, a, mid, hrs, h1, h2, hg, ht, hr⟩ := h
    have hle := T.GotEs.le r g mid hi q hr
    exact ⟨c, q, a, mid, hrs, h1, h2, .inr (by omega), ht, T.GotEs.apart r g g' mid hi q hr hh⟩
theorem T.GotEs.snoc : ∀ (ks : List T) (g lo mid hi : Nat) (rs : List Kc) (t : T) (c : Kc), T.GotEs w R0 E ks g lo mid rs → T.GotE w R0 E t mid hi c → (g < mid ∨ hi ≤ g) → T.GotEs w R0 E (ks ++ [t]) g lo hi (rs ++ [c])
  | [], g, lo, mid, hi, rs, t, c, h, ht, hg => by
    have := ht.le
    simp only [T.GotEs] at h
    simp only [T.GotEs, List.nil_append, h.1]
    exact ⟨c, [], mid, hi, rfl, h.2, this, hg, ht, rfl, Nat.le_refl _⟩
  | u :: r, g, lo, mid, hi, rs, t, c, h, ht, hg => by
    simp only [T.GotEs, List.cons_append] at h ⊢
    obtain ⟨d, q, a, m2, hrs, h1, h2, hg2, hu, hr⟩ := h
    exact ⟨d, q ++ [c], a, m2, by rw [hrs]; rfl, h1, h2, hg2, hu, T.GotEs.snoc r g m2 mid hi q t c hr ht hg⟩
theorem T.GotE.wide {t : T} {lo hi lo' hi' : Nat} {v : Kc} (h : T.GotE w R0 E t lo hi v) (h1 : lo' ≤ lo) (h2 : hi ≤ hi') : T.GotE w R0 E t lo' hi' v := by
  cases t with
  | node k nm ns ng mg ks =>
    simp only [T.GotE] at h ⊢
    obtain ⟨A1, c1, A2, c2, A3, c3, hv, hm1, hs, hm, hk⟩ := h
    refine ⟨A1, c1, A2, c2, A3, c3, hv, by omega, hs.up h1 h2 (fun _ _ _ _ => rfl) (fun _ _ _ h => h), hm, ?_⟩
    rcases hk with hk | ⟨g, rs, hA, ⟨hg1, hg2, hg3⟩, hrow, hn⟩
    · exact .inl hk
    · exact .inr ⟨g, rs, hA, ⟨by omega, by omega, hg3⟩, hrow, T.GotEs.lo ks g lo lo' hi' rs (T.GotEs.hi ks g lo hi hi' rs hn h2) h1⟩
theorem T.GotE.fr {x : Nat → Prop} {t : T} {lo hi : Nat} {v : Kc} (h : T.GotE w R0 E t lo hi v) (hf : Fr w w' x) (h0 : ∀ b, R0 b → ¬ x b) (hx : ∀ b, lo ≤ b → b < hi → ¬ E b → ¬ x b) (hh : hi ≤ w.heap.size) : T.GotE w' R0 E t lo hi v :=
  T.GotE.keep (.of_fr hf h0) t lo hi v h (fun b h1 h2 h3 => hf.block b (by omega) (hx b h1 h2 h3)) (fun _ _ _ h => h)
theorem T.GotE.lift {t : T} {lo hi : Nat} {v : Kc} (h : T.GotE w R0 E t lo hi v) (hE : ∀ b, lo ≤ b → b < hi → E' b → E b) : T.GotE w R0 E' t lo hi v :=
  T.GotE.keep (fun _ _ _ h => h) t lo hi v h (fun _ _ _ _ => rfl) hE
mutual
theorem T.GotE.In : ∀ (t : T) (lo hi : Nat) (v : Kc) (R : Nat → Prop), T.GotE w R0 E t lo hi v → (∀ b, R0 b → R b) → (∀ b, lo ≤ b → b < hi → R b) → T.In w R t (kv v)
  | .node k nm ns ng mg ks, lo, hi, v, R, h, h0, hR => by
    simp only [T.GotE] at h
    obtain ⟨A1, c1, A2, c2, A3, c3, rfl, h1, hs, hm, hk⟩ := h
    simp only [T.In]
    refine ⟨A1, c1, A2, c2, A3, c3, rfl, hs.1.keep (fun _ _ _ hc => hc) (fun b hb => hR b hb.1 hb.2.1), hm.1.keep (fun _ _ _ hc => hc) h0, ?_, fun hn => ?_⟩
    · rcases hk with ⟨_, _, rfl⟩ | ⟨g, rs, _, _, ⟨_, _, h3, _⟩, _⟩
      · exact Nat.zero_le _
      · exact h3
    · rcases hk with ⟨_, _, rfl⟩ | ⟨g, rs, hA, ⟨hg1, hg2, _⟩, hrow, hn2⟩
      · exact absurd hn (by simp)
      · have hl := T.GotEs.len ks g lo hi rs hn2
        have hcs := hrow.cells
        exact ⟨g, 0, hA, hR g hg1 hg2, T.GotEs.In ks g lo hi rs 0 R hn2 h0 hR (fun i hi' j hj => by rw [Nat.zero_add]; exact hcs i (by omega) j hj)⟩
theorem T.GotEs.In : ∀ (ks : List T) (g lo hi : Nat) (rs : List Kc) (o : Nat) (R : Nat → Prop), T.GotEs w R0 E ks g lo hi rs → (∀ b, R0 b → R b) → (∀ b, lo ≤ b → b < hi → R b) → (∀ i, i < rs.length → ∀ j, j < 6 → w.cell? ⟨g, o + (i * 6 + j), Option.none⟩ = (kcl (rs.getD i kc0))[j]?) → T.Ins w R g o ks
  | [], _, _, _, _, _, _, _, _, _, _ => by simp only [T.Ins]
  | t :: r, g, lo, hi, rs, o, R, h, h0, hR, hc => by
    simp only [T.GotEs] at h
    obtain ⟨c, q, a, mid, rfl, h1, h2, hg, ht, hr⟩ := h
    have hle := T.GotEs.le r g mid hi q hr
    simp only [T.Ins]
    refine ⟨⟨c.1, c.2.1, c.2.2.1, c.2.2.2.1, c.2.2.2.2.1, c.2.2.2.2.2, ?_, T.GotE.In t a mid c R ht h0 (fun b hb1 hb2 => hR b (by omega) (by omega))⟩, T.GotEs.In r g mid hi q (o + 6) R hr h0 (fun b hb1 hb2 => hR b (by omega) hb2) ?_⟩
    · have h0 := hc 0 (by simp)
      simp only [Nat.zero_mul, Nat.zero_add] at h0
      exact ⟨h0 0 (by omega), h0 1 (by omega), h0 2 (by omega), h0 3 (by omega), h0 4 (by omega), h0 5 (by omega)⟩
    · intro i hi' j hj
      have := hc (i + 1) (by simpa using hi') j hj
      rw [show o + 6 + (i * 6 + j) = o + ((i + 1) * 6 + j) by omega, this]
      simp [List.getD]
end
theorem Lm.r0 {R1 : Nat → Prop} {A : Option Addr} {c : Nat} {l : List Nat} (h : Lm w R0 A c l) (hr : ∀ b, R0 b → R1 b) : Lm w R1 A c l := by
  refine ⟨h.1.keep (fun _ _ _ h => h) hr, h.2.1, ?_⟩
  rcases h.2.2 with h | ⟨g, cs, h1, h2, h3⟩
  · exact .inl h
  · exact .inr ⟨g, cs, h1, hr g h2, h3⟩
mutual
theorem T.GotE.r0 {R1 : Nat → Prop} (hr : ∀ b, R0 b → R1 b) : ∀ (t : T) (lo hi : Nat) (v : Kc), T.GotE w R0 E t lo hi v → T.GotE w R1 E t lo hi v
  | .node k nm ns ng mg ks, lo, hi, v, h => by
    simp only [T.GotE] at h ⊢
    obtain ⟨A1, c1, A2, c2, A3, c3, hv, h1, hs, hm, hk⟩ := h
    refine ⟨A1, c1, A2, c2, A3, c3, hv, h1, hs, hm.r0 hr, ?_⟩
    rcases hk with hk | ⟨g, rs, hA, hg, hrow, hn⟩
    · exact .inl hk
    · exact .inr ⟨g, rs, hA, hg, hrow, T.GotEs.r0 hr ks g lo hi rs hn⟩
theorem T.GotEs.r0 {R1 : Nat → Prop} (hr : ∀ b, R0 b → R1 b) : ∀ (ks : List T) (g lo hi : Nat) (rs : List Kc), T.GotEs w R0 E ks g lo hi rs → T.GotEs w R1 E ks g lo hi rs
  | [], _, _, _, _, h => by simp only [T.GotEs] at h ⊢; exact h
  | t :: r, g, lo, hi, rs, h => by
    simp only [T.GotEs] at h ⊢
    obtain ⟨c, q, a, mid, hrs, h1, h2, hg, ht, hr'⟩ := h
    exact ⟨c, q, a, mid, hrs, h1, h2, hg, T.GotE.r0 hr t a mid c ht, T.GotEs.r0 hr r g mid hi q hr'⟩
end
theorem KRow.blk1 {g : Nat} {a : Kc} (h : Blk w g 28 #[a.1, a.2.1, a.2.2.1, a.2.2.2.1, a.2.2.2.2.1, a.2.2.2.2.2]) : KRow w g 1 1 [a] :=
  ⟨_, h, Nat.le_refl _, by decide, rfl, by simp [kcs, kcl, kzs, Builtin.zeroCells]⟩
theorem KRow.blk2 {g : Nat} {a b : Kc} (h : Blk w g 28 #[a.1, a.2.1, a.2.2.1, a.2.2.2.1, a.2.2.2.2.1, a.2.2.2.2.2, b.1, b.2.1, b.2.2.1, b.2.2.2.1, b.2.2.2.2.1, b.2.2.2.2.2]) : KRow w g 2 2 [a, b] :=
  ⟨_, h, Nat.le_refl _, by decide, rfl, by simp [kcs, kcl, kzs, Builtin.zeroCells]⟩
theorem T.GotE.one {k : Int} {nm : ByteArray} {ns : List ByteArray} {mg : List Nat} {u : T} {lo a hi g : Nat} {c : Kc} {A1 : Option Addr} {c1 : Nat} {A2 : Option Addr} {c2 : Nat} (hn : NmE E w lo a A1 c1 ns) (hm : Lm w R0 A2 c2 mg) (hu : T.GotE w R0 E u a g c) (hlo : lo ≤ a) (hg : g < hi) (hE : ¬ E g)
    (hb : Blk w g 28 #[c.1, c.2.1, c.2.2.1, c.2.2.2.1, c.2.2.2.2.1, c.2.2.2.2.2]) : T.GotE w R0 E (.node k nm ns false mg [u]) lo hi (tc k nm A1 ns.length c1 false A2 mg.length c2 (some ⟨g, 0, Option.none⟩) 1 1) := by
  have hle := hu.le
  simp only [T.GotE]
  refine ⟨A1, c1, A2, c2, _, _, rfl, by omega, hn.up (Nat.le_refl _) (by omega) (fun _ _ _ _ => rfl) (fun _ _ _ h => h), hm, .inr ⟨g, [c], rfl, ⟨by omega, hg, hE⟩, .blk1 hb, ?_⟩⟩
  simp only [T.GotEs]
  exact ⟨c, [], a, g, rfl, hlo, hle, .inr (Nat.le_refl _), hu, rfl, by omega⟩
theorem T.GotE.two {k : Int} {t u : T} {lo a m hi g : Nat} {b c : Kc} (ht : T.GotE w R0 E t lo a b) (hu : T.GotE w R0 E u m g c) (ham : a ≤ m) (hg : g < hi) (hE : ¬ E g)
    (hb : Blk w g 28 #[b.1, b.2.1, b.2.2.1, b.2.2.2.1, b.2.2.2.2.1, b.2.2.2.2.2, c.1, c.2.1, c.2.2.1, c.2.2.2.1, c.2.2.2.2.1, c.2.2.2.2.2]) : T.GotE w R0 E (P.nd k [t, u]) lo hi (tc k ⟨#[]⟩ Option.none 0 0 false Option.none 0 0 (some ⟨g, 0, Option.none⟩) 2 2) := by
  have h1 := ht.le
  have h2 := hu.le
  simp only [P.nd, T.GotE]
  refine ⟨Option.none, 0, Option.none, 0, _, _, rfl, by omega, NmE.nil _ _ _ _, Lm.nil _ _, .inr ⟨g, [b, c], rfl, ⟨by omega, hg, hE⟩, .blk2 hb, ?_⟩⟩
  simp only [T.GotEs]
  exact ⟨b, [c], lo, a, rfl, Nat.le_refl _, h1, .inr (by omega), ht, c, [], m, g, rfl, ham, h2, .inr (Nat.le_refl _), hu, rfl, by omega⟩
theorem T.GotE.leaf {k : Int} {nm : ByteArray} {mg : List Nat} {lo hi : Nat} {A2 : Option Addr} {c2 : Nat} (hm : Lm w R0 A2 c2 mg) (hh : lo ≤ hi) : T.GotE w R0 E (.node k nm [] false mg []) lo hi (tc k nm Option.none 0 0 false A2 mg.length c2 Option.none 0 0) := by
  simp only [T.GotE]
  exact ⟨Option.none, 0, A2, c2, Option.none, 0, rfl, hh, NmE.nil _ _ _ _, hm, .inl ⟨rfl, rfl, trivial⟩⟩
end
abbrev T.Got (w : World) (R0 : Nat → Prop) : T → Nat → Nat → Kc → Prop := T.GotE w R0 N0
end Go.Proofs.YthiadenmljbdaaaGreatDoor
end
section
namespace Go.Proofs.YthiadenmljbdaaaGreatDoor
open Go.RowKit
def Ans (w : World) (R : Nat) (R0 : Nat → Prop) (A : Option Addr) (c : Nat) (ws : List Wd) (e : Nat) : P.Rd → Ending → World → Prop
  | .out, _, _ => False
  | .bad cd p, ex, w' => ex = .panicked [stopV cd p] ∧ Fr w w' (fun k => k = R)
  | .ok t r, ex, w' => ∃ v a', ex = .returned (kv v) ∧ r = ws.drop a' ∧ Pa w' R R0 A c ws e a' ∧ T.Got w' R0 t w.heap.size w'.heap.size v ∧ Fr w w' (fun k => k = R)
def Rule (R0 : Nat → Prop) (A : Option Addr) (c : Nat) (ws : List Wd) (e f : Nat) (nt : P.NT) (fn : Nat) : Prop :=
  ∀ (w : World) (R a : Nat), Pa w R R0 A c ws e a → (∀ b, R0 b → b < w.heap.size) → P.G e f nt (ws.drop a) ≠ .out → Calls Tryz.prog fn #[.pointer (some ⟨R, 0, none⟩)] w (Ans w R R0 A c ws e (P.G e f nt (ws.drop a)))
section
variable {w w' W W3 W4 : World} {R : Nat} {R0 : Nat → Prop} {A : Option Addr} {c e a a' : Nat} {ws : List Wd}
theorem Rule.ok {f fn : Nat} {nt : P.NT} {t : T} {r : List Wd} (h : Rule R0 A c ws e f nt fn) (hp : Pa w R R0 A c ws e a) (h0 : ∀ b, R0 b → b < w.heap.size) (hX : P.G e f nt (ws.drop a) = .ok t r) :
    Calls Tryz.prog fn #[.pointer (some ⟨R, 0, none⟩)] w fun ex w' => ∃ v a', ex = .returned (kv v) ∧ r = ws.drop a' ∧ Pa w' R R0 A c ws e a' ∧ T.Got w' R0 t w.heap.size w'.heap.size v ∧ Fr w w' (fun k => k = R) := by
  have := h w R a hp h0 (by rw [hX]; intro h; cases h)
  rw [hX] at this
  exact this
theorem Rule.bad {f fn : Nat} {nt : P.NT} {cd p : Nat} (h : Rule R0 A c ws e f nt fn) (hp : Pa w R R0 A c ws e a) (h0 : ∀ b, R0 b → b < w.heap.size) (hX : P.G e f nt (ws.drop a) = .bad cd p) :
    Calls Tryz.prog fn #[.pointer (some ⟨R, 0, none⟩)] w fun ex w' => ex = .panicked [stopV cd p] ∧ Fr w w' (fun k => k = R) := by
  have := h w R a hp h0 (by rw [hX]; intro h; cases h)
  rw [hX] at this
  exact this
theorem Blk.open6 {b : Nat} {t : TypeId} {a0 a1 a2 a3 a4 a5 : Value} (h : Blk w b t #[a0, a1, a2, a3, a4, a5]) :
    (w.frozen? ⟨b, 0, none⟩ = false ∧ w.frozen? ⟨b, 1, none⟩ = false ∧ w.frozen? ⟨b, 2, none⟩ = false ∧ w.frozen? ⟨b, 3, none⟩ = false ∧ w.frozen? ⟨b, 4, none⟩ = false ∧ w.frozen? ⟨b, 5, none⟩ = false) ∧
    w.cell? ⟨b, 0, none⟩ = some a0 ∧ w.cell? ⟨b, 1, none⟩ = some a1 ∧ w.cell? ⟨b, 2, none⟩ = some a2 ∧ w.cell? ⟨b, 3, none⟩ = some a3 ∧ w.cell? ⟨b, 4, none⟩ = some a4 ∧ w.cell? ⟨b, 5, none⟩ = some a5 :=
  ⟨⟨h.free 0, h.free 1, h.free 2, h.free 3, h.free 4, h.free 5⟩, h.six⟩
theorem Blk.set6 {b : Nat} {t : TypeId} {a0 a1 a2 a3 a4 a5 : Value} (h : Blk w b t #[a0, a1, a2, a3, a4, a5]) (u0 u1 u2 u3 u4 u5 : Value) :
    Blk ((((((w.setCell ⟨b, 0, none⟩ u0).setCell ⟨b, 1, none⟩ u1).setCell ⟨b, 2, none⟩ u2).setCell ⟨b, 3, none⟩ u3).setCell ⟨b, 4, none⟩ u4).setCell ⟨b, 5, none⟩ u5) b t #[u0, u1, u2, u3, u4, u5] :=
  (((((h.put 0 u0).put 1 u1).put 2 u2).put 3 u3).put 4 u4).put 5 u5
theorem fr6 (w : World) (b : Nat) (u0 u1 u2 u3 u4 u5 : Value) : Fr w ((((((w.setCell ⟨b, 0, none⟩ u0).setCell ⟨b, 1, none⟩ u1).setCell ⟨b, 2, none⟩ u2).setCell ⟨b, 3, none⟩ u3).setCell ⟨b, 4, none⟩ u4).setCell ⟨b, 5, none⟩ u5) (fun k => k = b) :=
  (fr5 w b u0 u1 u2 u3 u4).set (b := b) (.inl rfl) 5 u5
theorem ans_ok {E : Nat → Prop} {t : T} {lo b : Nat} {v : Kc} (hb : w.heap.size ≤ b) (hlo : w.heap.size ≤ lo) (hbl : b < lo ∨ E b) (hw : Fr w W3 (fun k => k = R)) (hp : Pa W3 R R0 A c ws e a') (hg : T.GotE W3 R0 E t lo W3.heap.size v) (h4 : Fr W3 W4 (fun k => k = b)) (h0 : ∀ b, R0 b → b < w.heap.size) (hR : R < w.heap.size) :
    Ans w R R0 A c ws e (.ok t (ws.drop a')) (.returned (kv v)) W4 := by
  have hp4 : Blk W4 R 66 #[.slice A ws.length c, .int .i64 (a' : Nat), .int .i64 (e : Nat)] := h4.blk hp.1 (by show ¬ R = b; omega)
  have hf := hw.step h4 (fun k hk => .inr (by have : k = b := hk; omega))
  refine ⟨v, a', rfl, rfl, ⟨hp4, hp.2.1, hp.2.2.1.keep (.of_fr h4 (fun k hk e => by have := h0 k hk; have : k = b := e; omega)), hp.2.2.2⟩, ?_, hf⟩
  refine ((hg.fr h4 (fun k hk e => by have := h0 k hk; have : k = b := e; omega) (fun k h1 _ h3 e => ?_) (Nat.le_refl _)).lift (E' := N0) (fun _ _ _ h => h.elim)).wide hlo h4.size
  have e : k = b := e
  rcases hbl with h | h
  · omega
  · exact h3 (e ▸ h)
theorem results_tr {fn : Func} {p : Tmp} (h : fn.results = #[.cell p 28]) (tmps : Array Value) (w : World) (g : Nat) (a0 a1 a2 a3 a4 a5 : Value)
    (hp : tmps.getD p undef = .pointer (some ⟨g, 0, none⟩)) (hg : Blk w g 28 #[a0, a1, a2, a3, a4, a5]) :
    (results fn tmps).run Tryz.prog w = .ok (.agg #[a0, a1, a2, a3, a4, a5]) w :=
  results_cell_row h tmps w g _ _ _ _ hp hg Tryz.underlying28 rfl sizeTree
theorem tail_drop (ws : List Wd) (a : Nat) : (ws.drop a).tail = ws.drop (a + 1) := by rw [List.tail_drop]
abbrev tz : Array Value := #[.int .i64 0, .string ⟨#[]⟩, .slice none 0 0, .bool false, .slice none 0 0, .slice none 0 0]
theorem Fr.lt {x : Nat → Prop} (h : Fr w w' x) (h0 : ∀ b, R0 b → b < w.heap.size) : ∀ b, R0 b → b < w'.heap.size := fun b hb => Nat.lt_of_lt_of_le (h0 b hb) h.size
abbrev row1 (d : Kc) : Obj := .cells #[d.1, d.2.1, d.2.2.1, d.2.2.2.1, d.2.2.2.2.1, d.2.2.2.2.2] 28
abbrev row2 (b d : Kc) : Obj := .cells #[b.1, b.2.1, b.2.2.1, b.2.2.2.1, b.2.2.2.2.1, b.2.2.2.2.2, d.1, d.2.1, d.2.2.1, d.2.2.2.1, d.2.2.2.2.1, d.2.2.2.2.2] 28
theorem T.GotE.later {E : Nat → Prop} {t : T} {lo hi : Nat} {v : Kc} (h : T.GotE w R0 E t lo hi v) (hb : Below w.heap.size w w') (hh : hi ≤ w.heap.size) : T.GotE w' R0 E t lo hi v :=
  T.GotE.keep (.of_below hb) t lo hi v h (fun b _ h2 _ => hb.block b (by omega)) (fun _ _ _ h => h)
theorem ans_sub {w1 : World} {t : T} {b : Nat} {v : Kc} (hb : w.heap.size ≤ b) (hbl : b < w1.heap.size) (hw : Fr w W3 (fun k => k = R)) (hp : Pa W3 R R0 A c ws e a') (hg : T.Got W3 R0 t w1.heap.size W3.heap.size v) (h4 : Fr W3 W4 (fun k => k = b)) (h0 : ∀ b, R0 b → b < w.heap.size) (hR : R < w.heap.size) :
    Ans w R R0 A c ws e (.ok t (ws.drop a')) (.returned (kv v)) W4 := ans_ok hb (by omega) (.inl hbl) hw hp hg h4 h0 hR
theorem ans_one {w2 : World} {k : Int} {nm : ByteArray} {ns : List ByteArray} {mg : List Nat} {u : T} {d : Kc} {b lo q : Nat} {A1 : Option Addr} {c1 : Nat} {A2 : Option Addr} {c2 : Nat} (hb : w.heap.size ≤ b) (hbl : b < lo) (hlo : lo ≤ q)
    (hw : Fr w w2 (fun k => k = R)) (hp : Pa w2 R R0 A c ws e a') (hg : T.Got w2 R0 u q w2.heap.size d) (hn : NmR w2 lo q A1 c1 ns) (hm : Lm w2 R0 A2 c2 mg) (h4 : Fr (w2.alloc (row1 d)) W4 (fun k => k = b)) (h0 : ∀ b, R0 b → b < w.heap.size) (hR : R < w.heap.size) :
    Ans w R R0 A c ws e (.ok (.node k nm ns false mg [u]) (ws.drop a')) (.returned (kv (tc k nm A1 ns.length c1 false A2 mg.length c2 (some ⟨w2.heap.size, 0, none⟩) 1 1))) W4 := by
  have hal := below_alloc1 w2 (row1 d)
  have hsz : (w2.alloc (row1 d)).heap.size = w2.heap.size + 1 := by simp
  have hq := hg.le
  refine ans_ok (E := N0) (lo := lo) hb (by omega) (.inl hbl) (hw.below hal) (hp.below hal) ?_ h4 h0 hR
  exact T.GotE.one (a := q) (g := w2.heap.size) (hn.up (Nat.le_refl _) (Nat.le_refl _) (fun b _ h2 _ => hal.block b (by omega)) (fun _ _ _ h => h)) (hm.keep (.of_below hal)) (hg.later hal (Nat.le_refl _)) hlo (by omega) id (Blk.new _ _ _)
theorem got_two {E : Nat → Prop} {w2 : World} {k : Int} {t u : T} {d1 d2 : Kc} {lo m q : Nat} (ht : T.GotE w2 R0 E t lo m d1) (hmq : m ≤ q) (hg : T.GotE w2 R0 E u q w2.heap.size d2) (hE : ¬ E w2.heap.size) :
    T.GotE (w2.alloc (row2 d1 d2)) R0 E (P.nd k [t, u]) lo (w2.alloc (row2 d1 d2)).heap.size (tc k ⟨#[]⟩ none 0 0 false none 0 0 (some ⟨w2.heap.size, 0, none⟩) 2 2) := by
  have hal := below_alloc1 w2 (row2 d1 d2)
  have hsz : (w2.alloc (row2 d1 d2)).heap.size = w2.heap.size + 1 := by simp
  have hq := hg.le
  have hq' := ht.le
  exact T.GotE.two (a := m) (m := q) (g := w2.heap.size) (ht.later hal (by omega)) (hg.later hal (Nat.le_refl _)) hmq (by omega) hE (Blk.new _ _ _)
theorem ans_two {E : Nat → Prop} {w2 : World} {k : Int} {t u : T} {d1 d2 : Kc} {b lo m q : Nat} (hb : w.heap.size ≤ b) (hlo : w.heap.size ≤ lo) (hbl : b < lo ∨ E b) (ht : T.GotE w2 R0 E t lo m d1) (hmq : m ≤ q)
    (hw : Fr w w2 (fun k => k = R)) (hp : Pa w2 R R0 A c ws e a') (hg : T.GotE w2 R0 E u q w2.heap.size d2) (hE : ¬ E w2.heap.size) (h4 : Fr (w2.alloc (row2 d1 d2)) W4 (fun k => k = b)) (h0 : ∀ b, R0 b → b < w.heap.size) (hR : R < w.heap.size) :
    Ans w R R0 A c ws e (.ok (P.nd k [t, u]) (ws.drop a')) (.returned (kv (tc k ⟨#[]⟩ none 0 0 false none 0 0 (some ⟨w2.heap.size, 0, none⟩) 2 2))) W4 := by
  have hal := below_alloc1 w2 (row2 d1 d2)
  exact ans_ok (lo := lo) hb hlo hbl (hw.below hal) (hp.below hal) (got_two ht hmq hg hE) h4 h0 hR
theorem ans_leaf {w2 : World} {k : Int} {nm : ByteArray} {mg : List Nat} {b : Nat} {A2 : Option Addr} {c2 : Nat} (hb : w.heap.size ≤ b) (hbl : b < w2.heap.size) (hw : Fr w w2 (fun k => k = R)) (hp : Pa w2 R R0 A c ws e a') (hm : Lm w2 R0 A2 c2 mg) (h4 : Fr w2 W4 (fun k => k = b)) (h0 : ∀ b, R0 b → b < w.heap.size) (hR : R < w.heap.size) :
    Ans w R R0 A c ws e (.ok (.node k nm [] false mg []) (ws.drop a')) (.returned (kv (tc k nm none 0 0 false A2 mg.length c2 none 0 0))) W4 :=
  ans_ok (E := N0) (lo := w2.heap.size) hb (by omega) (.inl hbl) hw hp (T.GotE.leaf hm (Nat.le_refl _)) h4 h0 hR
theorem P.tx_drop (ws : List Wd) (i : Nat) (h : i < ws.length) : P.tx (ws.drop i) = (ws.getD i wd0).2.1 := by
  rw [List.drop_eq_getElem_cons h]
  simp [P.tx, h, List.getD]
theorem P.mg_drop (ws : List Wd) (i : Nat) (h : i < ws.length) : P.mg (ws.drop i) = (ws.getD i wd0).2.2.1 := by
  rw [List.drop_eq_getElem_cons h]
  simp [P.mg, h, List.getD]
theorem P.pl_drop (ws : List Wd) (i : Nat) (h : i < ws.length) : P.pl (ws.drop i) = (ws.getD i wd0).2.2.2 := by
  rw [List.drop_eq_getElem_cons h]
  simp [P.pl, h, List.getD]
theorem kd_lt {ws : List Wd} {i k : Nat} (h : P.kd (ws.drop i) = k) (hk : k ≠ 0) : i < ws.length := by
  obtain ⟨t, r, hl, _⟩ := P.kd_cons h hk
  have := congrArg List.length hl
  simp at this
  omega
theorem run_field1 (a0 a2 a3 a4 : Value) (s : ByteArray) (w : World) : (Instr.field 98 (.agg #[a0, .string s, a2, a3, a4]) 1).run Tryz.prog w = .ok (.string s) w := by kernel_rfl
theorem run_field2 (a0 a1 a2 a3 a4 : Value) (w : World) : (Instr.field 98 (.agg #[a0, a1, a2, a3, a4]) 2).run Tryz.prog w = .ok (.agg #[a2, a3]) w := by kernel_rfl
theorem Pa.inc (h : Pa w R R0 A c ws e a) (hlt : a < ws.length) : Pa (w.setCell ⟨R, 1, none⟩ (.int .i64 ((a : Int) + 1))) R R0 A c ws e (a + 1) ∧ Fr w (w.setCell ⟨R, 1, none⟩ (.int .i64 ((a : Int) + 1))) (fun k => k = R) := by
  have hf : Fr w (w.setCell ⟨R, 1, none⟩ (.int .i64 ((a : Int) + 1))) (fun k => k = R) := (Fr.refl w (fun k => k = R)).set (b := R) (.inl rfl) 1 (.int .i64 ((a : Int) + 1))
  exact ⟨h.at hf (h.1.put 1 _) hlt, hf⟩
theorem isW_lt {s : ByteArray} {i : Nat} (h : P.isW s (ws.drop i) = true) : i < ws.length := by
  rw [P.isW_drop] at h
  simp at h
  exact h.1
abbrev k6 (v : Kc) : Array Value := #[v.1, v.2.1, v.2.2.1, v.2.2.2.1, v.2.2.2.2.1, v.2.2.2.2.2]
end
end Go.Proofs.YthiadenmljbdaaaGreatDoor
end
section
namespace Go.Proofs.YthiadenmljbdaaaGreatDoor
open Go.RowKit
attribute [local go_sem] Oper.semAt_some
section
variable {R0 : Nat → Prop} {A : Option Addr} {c e : Nat} {ws : List Wd}
def BoundR (R0 : Nat → Prop) (A : Option Addr) (c : Nat) (ws : List Wd) (e f : Nat) (k : Int) : Prop :=
  ∀ (w : World) (R a : Nat), Pa w R R0 A c ws e a → (∀ b, R0 b → b < w.heap.size) → P.bound e (P.G e f) k (ws.drop a) ≠ .out → Calls Tryz.prog 143 #[.pointer (some ⟨R, 0, none⟩), .int .i64 k] w (Ans w R R0 A c ws e (P.bound e (P.G e f) k (ws.drop a)))
theorem BoundR.ok {w : World} {R a f : Nat} {k : Int} {t : T} {r : List Wd} (h : BoundR R0 A c ws e f k) (hp : Pa w R R0 A c ws e a) (h0 : ∀ b, R0 b → b < w.heap.size) (hX : P.bound e (P.G e f) k (ws.drop a) = .ok t r) :
    Calls Tryz.prog 143 #[.pointer (some ⟨R, 0, none⟩), .int .i64 k] w fun ex w' => ∃ v a', ex = .returned (kv v) ∧ r = ws.drop a' ∧ Pa w' R R0 A c ws e a' ∧ T.Got w' R0 t w.heap.size w'.heap.size v ∧ Fr w w' (fun k => k = R) := by
  have := h w R a hp h0 (by rw [hX]; intro h; cases h)
  rw [hX] at this
  exact this
theorem BoundR.bad {w : World} {R a f : Nat} {k : Int} {cd p : Nat} (h : BoundR R0 A c ws e f k) (hp : Pa w R R0 A c ws e a) (h0 : ∀ b, R0 b → b < w.heap.size) (hX : P.bound e (P.G e f) k (ws.drop a) = .bad cd p) :
    Calls Tryz.prog 143 #[.pointer (some ⟨R, 0, none⟩), .int .i64 k] w fun ex w' => ex = .panicked [stopV cd p] ∧ Fr w w' (fun k => k = R) := by
  have := h w R a hp h0 (by rw [hX]; intro h; cases h)
  rw [hX] at this
  exact this
set_option maxRecDepth 100000 in
set_option maxHeartbeats 6400000 in
theorem notted_w (f : Nat) (hn : Rule R0 A c ws e f .notted 109) (hbd : ∀ k, BoundR R0 A c ws e f k) (hpr : Rule R0 A c ws e f .prim 144) : Rule R0 A c ws e (f + 1) .notted 109 := by
  intro w R a hp h0 hX
  rw [P.G_succ] at hX ⊢
  obtain ⟨X, hXe⟩ : ∃ X, P.step e (P.G e f) .notted (ws.drop a) = X := ⟨_, rfl⟩
  rw [hXe] at hX ⊢
  obtain ⟨W, hW, pb, hbW⟩ := made_blk w tz 28
  obtain ⟨b2, hb2⟩ : ∃ b, b = w.heap.size := ⟨_, rfl⟩
  have hRl : R < w.heap.size := hp.1.lt
  have hsz : W.heap.size = w.heap.size + 1 := by rw [hW]; simp
  have hp0 := hp.below hbW
  have hf0 : Fr w W (fun k => k = R) := Fr.of_below hbW
  have hne : ¬ b2 = R := by omega
  have pb0 : Blk W b2 28 tz := by rw [hb2]; exact pb
  have HW := Lib.hid hW
  have H0 := Lib.hid h0
  have HB2 := Lib.hid hb2
  have HSZ := Lib.hid hsz
  clear hp hbW pb hW h0 hsz hb2
  have HN := Lib.hid hn
  have HBD := Lib.hid hbd
  have HPR := Lib.hid hpr
  clear hn hbd hpr
  have hs0 : W.heap.size ≤ W.heap.size := Nat.le_refl _
  by_cases h1 : P.isW ⟨#[110, 111, 116]⟩ (ws.drop a) = true
  · simp only [P.step, h1, if_true, tail_drop] at hXe
    have H1 := Lib.hid h1
    clear h1
    cases hY : P.G e f .notted (ws.drop (a + 1)) with
    | out => rw [hY] at hXe; exact absurd hXe.symm hX
    | bad cd p =>
      rw [hY] at hXe
      have hXe : P.Rd.bad cd p = X := hXe
      subst hXe
      have HY := Lib.hid hY
      clear hX hY
      go_enter Tryz.func109, Tryz.ntmps109
      go_upto_region 1 with (fail)
      rw [← HW.out, ← HB2.out]
      go_upto_region 2 with (go_at_call 68; refine (is_yes hp0 _ H1.out).mono ?_; rintro ex w1 ⟨rfl, hp1, hg1⟩)
      have hf1 := hf0.step hg1 (fun _ hk => .inl hk)
      have pb1 := hg1.blk pb0 hne
      have hs1 : W.heap.size ≤ w1.heap.size := by have := hg1.size; omega
      go_wp2_with (go_at_call 109; refine (HN.out.bad hp1 (hf1.lt H0.out) HY.out).mono ?_; rintro ex w9 ⟨rfl, hf9⟩)
      exact ⟨rfl, rfl, hf1.step hf9 (fun _ hk => .inl hk)⟩
    | ok u r =>
      rw [hY] at hXe
      have hXe : P.Rd.ok (P.nd 16 [u]) r = X := hXe
      subst hXe
      have HY := Lib.hid hY
      clear hX hY
      go_enter Tryz.func109, Tryz.ntmps109
      go_upto_region 1 with (fail)
      rw [← HW.out, ← HB2.out]
      go_upto_region 2 with (go_at_call 68; refine (is_yes hp0 _ H1.out).mono ?_; rintro ex w1 ⟨rfl, hp1, hg1⟩)
      have hf1 := hf0.step hg1 (fun _ hk => .inl hk)
      have pb1 := hg1.blk pb0 hne
      have hs1 : W.heap.size ≤ w1.heap.size := by have := hg1.size; omega
      go_wp2_with (go_at_call 109; refine (HN.out.ok hp1 (hf1.lt H0.out) HY.out).mono ?_; rintro ex w9 ⟨v, a9, rfl, rfl, hp9, hg9, hf9⟩; obtain ⟨F1, f1, F2, f2, F3, f3, rfl⟩ := hg9.form; have HPB9 := Lib.hid ((hf9.blk pb1 hne).below (below_alloc1 w9 (row1 (tc u.k u.nm F1 u.ns.length f1 u.ng F2 u.mg.length f2 F3 u.ks.length f3)))); obtain ⟨⟨q0, q1, q2, q3, q4, q5⟩, x0, x1, x2, x3, x4, x5⟩ := HPB9.out.open6)
      refine bodyPost_ret (results_tr rfl _ _ _ _ _ _ _ _ _ rfl (HPB9.out.set6 _ _ _ _ _ _)) rfl ?_
      exact ans_one (b := b2) (lo := W.heap.size) (Nat.le_of_eq HB2.out.symm) (by have := HB2.out; have := HSZ.out; omega) hs1 (hf1.step hf9 (fun _ hk => .inl hk)) hp9 hg9 (NmE.nil _ _ _ _) (Lm.nil _ _) (fr6 _ _ _ _ _ _ _ _) H0.out hRl
  · rw [Bool.not_eq_true] at h1
    have H1 := Lib.hid h1
    by_cases h2 : P.isW ⟨#[115, 111, 109, 101]⟩ (ws.drop a) = true
    · simp only [P.step, h1, h2, if_true, Bool.false_eq_true, if_false, tail_drop] at hXe
      have H2 := Lib.hid h2
      clear h1 h2
      cases hY : P.bound e (P.G e f) 21 (ws.drop (a + 1)) with
      | out => rw [hY] at hXe; exact absurd hXe.symm hX
      | bad cd p =>
        rw [hY] at hXe
        have hXe : P.Rd.bad cd p = X := hXe
        subst hXe
        have HY := Lib.hid hY
        clear hX hY
        go_enter Tryz.func109, Tryz.ntmps109
        go_upto_region 1 with (fail)
        rw [← HW.out, ← HB2.out]
        go_upto_region 3 with (go_at_call 68; refine (is_no hp0 _ H1.out).mono ?_; rintro ex w1 ⟨rfl, hb1⟩)
        have hp1 := hp0.below hb1
        have hf1 := hf0.below hb1
        have pb1 := pb0.below hb1
        go_upto_region 4 with (go_at_call 68; refine (is_yes hp1 _ H2.out).mono ?_; rintro ex w2 ⟨rfl, hp2, hg2⟩)
        have hf2 := hf1.step hg2 (fun _ hk => .inl hk)
        have pb2 := hg2.blk pb1 hne
        have hs2 : W.heap.size ≤ w2.heap.size := by have := hb1.size; have := hg2.size; omega
        go_wp2_with (go_at_call 143; refine ((HBD.out 21).bad hp2 (hf2.lt H0.out) HY.out).mono ?_; rintro ex w9 ⟨rfl, hf9⟩)
        exact ⟨rfl, rfl, hf2.step hf9 (fun _ hk => .inl hk)⟩
      | ok u r =>
        rw [hY] at hXe
        have hXe : P.Rd.ok u r = X := hXe
        subst hXe
        have HY := Lib.hid hY
        clear hX hY
        go_enter Tryz.func109, Tryz.ntmps109
        go_upto_region 1 with (fail)
        rw [← HW.out, ← HB2.out]
        go_upto_region 3 with (go_at_call 68; refine (is_no hp0 _ H1.out).mono ?_; rintro ex w1 ⟨rfl, hb1⟩)
        have hp1 := hp0.below hb1
        have hf1 := hf0.below hb1
        have pb1 := pb0.below hb1
        go_upto_region 4 with (go_at_call 68; refine (is_yes hp1 _ H2.out).mono ?_; rintro ex w2 ⟨rfl, hp2, hg2⟩)
        have hf2 := hf1.step hg2 (fun _ hk => .inl hk)
        have pb2 := hg2.blk pb1 hne
        have hs2 : W.heap.size ≤ w2.heap.size := by have := hb1.size; have := hg2.size; omega
        go_wp2_with (go_at_call 143; refine ((HBD.out 21).ok hp2 (hf2.lt H0.out) HY.out).mono ?_; rintro ex w9 ⟨v, a9, rfl, rfl, hp9, hg9, hf9⟩; obtain ⟨F1, f1, F2, f2, F3, f3, rfl⟩ := hg9.form; have HPB9 := Lib.hid (hf9.blk pb2 hne); obtain ⟨⟨q0, q1, q2, q3, q4, q5⟩, x0, x1, x2, x3, x4, x5⟩ := HPB9.out.open6)
        refine bodyPost_ret (results_tr rfl _ _ _ _ _ _ _ _ _ rfl (HPB9.out.set6 _ _ _ _ _ _)) rfl ?_
        exact ans_sub (b := b2) (Nat.le_of_eq HB2.out.symm) (by have := HB2.out; have := HSZ.out; have := hs2; omega) (hf2.step hf9 (fun _ hk => .inl hk)) hp9 hg9 (fr6 _ _ _ _ _ _ _ _) H0.out hRl
    · rw [Bool.not_eq_true] at h2
      have H2 := Lib.hid h2
      by_cases h3 : P.isW ⟨#[97, 108, 108]⟩ (ws.drop a) = true
      · simp only [P.step, h1, h2, h3, if_true, Bool.false_eq_true, if_false, tail_drop] at hXe
        have H3 := Lib.hid h3
        clear h1 h2 h3
        cases hY : P.bound e (P.G e f) 22 (ws.drop (a + 1)) with
        | out => rw [hY] at hXe; exact absurd hXe.symm hX
        | bad cd p =>
          rw [hY] at hXe
          have hXe : P.Rd.bad cd p = X := hXe
          subst hXe
          have HY := Lib.hid hY
          clear hX hY
          go_enter Tryz.func109, Tryz.ntmps109
          go_upto_region 1 with (fail)
          rw [← HW.out, ← HB2.out]
          go_upto_region 3 with (go_at_call 68; refine (is_no hp0 _ H1.out).mono ?_; rintro ex w1 ⟨rfl, hb1⟩)
          have hp1 := hp0.below hb1
          have hf1 := hf0.below hb1
          have pb1 := pb0.below hb1
          go_upto_region 5 with (go_at_call 68; refine (is_no hp1 _ H2.out).mono ?_; rintro ex w2 ⟨rfl, hb2⟩)
          have hp2 := hp1.below hb2
          have hf2 := hf1.below hb2
          have pb2 := pb1.below hb2
          go_upto_region 6 with (go_at_call 68; refine (is_yes hp2 _ H3.out).mono ?_; rintro ex w3 ⟨rfl, hp3, hg3⟩)
          have hf3 := hf2.step hg3 (fun _ hk => .inl hk)
          have pb3 := hg3.blk pb2 hne
          have hs3 : W.heap.size ≤ w3.heap.size := by have := hb1.size; have := hb2.size; have := hg3.size; omega
          go_wp2_with (go_at_call 143; refine ((HBD.out 22).bad hp3 (hf3.lt H0.out) HY.out).mono ?_; rintro ex w9 ⟨rfl, hf9⟩)
          exact ⟨rfl, rfl, hf3.step hf9 (fun _ hk => .inl hk)⟩
        | ok u r =>
          rw [hY] at hXe
          have hXe : P.Rd.ok u r = X := hXe
          subst hXe
          have HY := Lib.hid hY
          clear hX hY
          go_enter Tryz.func109, Tryz.ntmps109
          go_upto_region 1 with (fail)
          rw [← HW.out, ← HB2.out]
          go_upto_region 3 with (go_at_call 68; refine (is_no hp0 _ H1.out).mono ?_; rintro ex w1 ⟨rfl, hb1⟩)
          have hp1 := hp0.below hb1
          have hf1 := hf0.below hb1
          have pb1 := pb0.below hb1
          go_upto_region 5 with (go_at_call 68; refine (is_no hp1 _ H2.out).mono ?_; rintro ex w2 ⟨rfl, hb2⟩)
          have hp2 := hp1.below hb2
          have hf2 := hf1.below hb2
          have pb2 := pb1.below hb2
          go_upto_region 6 with (go_at_call 68; refine (is_yes hp2 _ H3.out).mono ?_; rintro ex w3 ⟨rfl, hp3, hg3⟩)
          have hf3 := hf2.step hg3 (fun _ hk => .inl hk)
          have pb3 := hg3.blk pb2 hne
          have hs3 : W.heap.size ≤ w3.heap.size := by have := hb1.size; have := hb2.size; have := hg3.size; omega
          go_wp2_with (go_at_call 143; refine ((HBD.out 22).ok hp3 (hf3.lt H0.out) HY.out).mono ?_; rintro ex w9 ⟨v, a9, rfl, rfl, hp9, hg9, hf9⟩; obtain ⟨F1, f1, F2, f2, F3, f3, rfl⟩ := hg9.form; have HPB9 := Lib.hid (hf9.blk pb3 hne); obtain ⟨⟨q0, q1, q2, q3, q4, q5⟩, x0, x1, x2, x3, x4, x5⟩ := HPB9.out.open6)
          refine bodyPost_ret (results_tr rfl _ _ _ _ _ _ _ _ _ rfl (HPB9.out.set6 _ _ _ _ _ _)) rfl ?_
          exact ans_sub (b := b2) (Nat.le_of_eq HB2.out.symm) (by have := HB2.out; have := HSZ.out; have := hs3; omega) (hf3.step hf9 (fun _ hk => .inl hk)) hp9 hg9 (fr6 _ _ _ _ _ _ _ _) H0.out hRl
      · rw [Bool.not_eq_true] at h3
        have H3 := Lib.hid h3
        simp only [P.step, h1, h2, h3, Bool.false_eq_true, if_false] at hXe
        clear h1 h2 h3
        cases hY : P.G e f .prim (ws.drop a) with
        | out => rw [hY] at hXe; exact absurd hXe.symm hX
        | bad cd p =>
          rw [hY] at hXe
          have hXe : P.Rd.bad cd p = X := hXe
          subst hXe
          have HY := Lib.hid hY
          clear hX hY
          go_enter Tryz.func109, Tryz.ntmps109
          go_upto_region 1 with (fail)
          rw [← HW.out, ← HB2.out]
          go_upto_region 3 with (go_at_call 68; refine (is_no hp0 _ H1.out).mono ?_; rintro ex w1 ⟨rfl, hb1⟩)
          have hp1 := hp0.below hb1
          have hf1 := hf0.below hb1
          have pb1 := pb0.below hb1
          go_upto_region 5 with (go_at_call 68; refine (is_no hp1 _ H2.out).mono ?_; rintro ex w2 ⟨rfl, hb2⟩)
          have hp2 := hp1.below hb2
          have hf2 := hf1.below hb2
          have pb2 := pb1.below hb2
          go_upto_region 7 with (go_at_call 68; refine (is_no hp2 _ H3.out).mono ?_; rintro ex w3 ⟨rfl, hb3⟩)
          have hp3 := hp2.below hb3
          have hf3 := hf2.below hb3
          have pb3 := pb2.below hb3
          have hs3 : W.heap.size ≤ w3.heap.size := by have := hb1.size; have := hb2.size; have := hb3.size; omega
          go_wp2_with (go_at_call 144; refine (HPR.out.bad hp3 (hf3.lt H0.out) HY.out).mono ?_; rintro ex w9 ⟨rfl, hf9⟩)
          exact ⟨rfl, rfl, hf3.step hf9 (fun _ hk => .inl hk)⟩
        | ok u r =>
          rw [hY] at hXe
          have hXe : P.Rd.ok u r = X := hXe
          subst hXe
          have HY := Lib.hid hY
          clear hX hY
          go_enter Tryz.func109, Tryz.ntmps109
          go_upto_region 1 with (fail)
          rw [← HW.out, ← HB2.out]
          go_upto_region 3 with (go_at_call 68; refine (is_no hp0 _ H1.out).mono ?_; rintro ex w1 ⟨rfl, hb1⟩)
          have hp1 := hp0.below hb1
          have hf1 := hf0.below hb1
          have pb1 := pb0.below hb1
          go_upto_region 5 with (go_at_call 68; refine (is_no hp1 _ H2.out).mono ?_; rintro ex w2 ⟨rfl, hb2⟩)
          have hp2 := hp1.below hb2
          have hf2 := hf1.below hb2
          have pb2 := pb1.below hb2
          go_upto_region 7 with (go_at_call 68; refine (is_no hp2 _ H3.out).mono ?_; rintro ex w3 ⟨rfl, hb3⟩)
          have hp3 := hp2.below hb3
          have hf3 := hf2.below hb3
          have pb3 := pb2.below hb3
          have hs3 : W.heap.size ≤ w3.heap.size := by have := hb1.size; have := hb2.size; have := hb3.size; omega
          go_wp2_with (go_at_call 144; refine (HPR.out.ok hp3 (hf3.lt H0.out) HY.out).mono ?_; rintro ex w9 ⟨v, a9, rfl, rfl, hp9, hg9, hf9⟩; obtain ⟨F1, f1, F2, f2, F3, f3, rfl⟩ := hg9.form; have HPB9 := Lib.hid (hf9.blk pb3 hne); obtain ⟨⟨q0, q1, q2, q3, q4, q5⟩, x0, x1, x2, x3, x4, x5⟩ := HPB9.out.open6)
          refine bodyPost_ret (results_tr rfl _ _ _ _ _ _ _ _ _ rfl (HPB9.out.set6 _ _ _ _ _ _)) rfl ?_
          exact ans_sub (b := b2) (Nat.le_of_eq HB2.out.symm) (by have := HB2.out; have := HSZ.out; have := hs3; omega) (hf3.step hf9 (fun _ hk => .inl hk)) hp9 hg9 (fr6 _ _ _ _ _ _ _ _) H0.out hRl
end
end Go.Proofs.YthiadenmljbdaaaGreatDoor
end

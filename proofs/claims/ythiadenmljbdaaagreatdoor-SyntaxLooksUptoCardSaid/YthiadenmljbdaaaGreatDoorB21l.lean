/-
  l: the parts DSpoil.
-/
import Derived.Test.YthiadenmljbdaaaGreatDoorB14l
namespace Go.Proofs.YthiadenmljbdaaaGreatDoor
section
open Go.RowKit
def Uz (w : World) (b : Nat) : Prop := ∃ cs : Array Value, w.heap[b]? = some (Obj.cells cs 69 (0, 0)) ∧ ∀ u ∈ cs.toList, ∃ z : Int, u = .int .u32 z
def Lz (w : World) (R0 : Nat → Prop) (A : Option Addr) (c : Nat) : Prop := (A = none ∧ c = 0) ∨ ∃ g cs, A = some ⟨g, 0, none⟩ ∧ R0 g ∧ w.heap[g]? = some (Obj.cells cs 69 (0, 0)) ∧ c ≤ cs.size ∧ ∀ u ∈ cs.toList, ∃ z : Int, u = .int .u32 z
def Nz (w : World) (lo hi : Nat) (A : Option Addr) (c : Nat) : Prop := (A = none ∧ c = 0) ∨ ∃ g cs, A = some ⟨g, 0, none⟩ ∧ lo ≤ g ∧ g < hi ∧ w.heap[g]? = some (Obj.cells cs 9 (0, 0)) ∧ c ≤ cs.size
def SF (R0 : Nat → Prop) (w w' : World) (x y : Nat → Prop) : Prop := Fr w w' (fun b => (R0 b ∧ Uz w b) ∨ x b) ∧
 (∀ (b : Nat) (cs : Array Value), w.heap[b]? = some (Obj.cells cs 69 (0, 0)) → (∀ u ∈ cs.toList, ∃ z : Int, u = .int .u32 z) → ∃ cs' : Array Value, w'.heap[b]? = some (Obj.cells cs' 69 (0, 0)) ∧ cs'.size = cs.size ∧ ∀ u ∈ cs'.toList, ∃ z : Int, u = .int .u32 z) ∧
 (∀ (b : Nat) (cs : Array Value), w.heap[b]? = some (Obj.cells cs 9 (0, 0)) → ∃ cs' : Array Value, w'.heap[b]? = some (Obj.cells cs' 9 (0, 0)) ∧ cs'.size = cs.size) ∧
 (∀ (b : Nat) (cs : Array Value), Blk w b 28 cs → ¬ y b → Blk w' b 28 cs)
section
variable {R0 : Nat → Prop} {w w' w1 w2 : World} {x y x' y' z : Nat → Prop}
theorem SF.of_below (h : Below w.heap.size w w') : SF R0 w w' x y := ⟨Fr.of_below h, fun b cs hc ha => ⟨cs, (h.block b (Array.getElem?_eq_some_iff.1 hc).1).trans hc, rfl, ha⟩, fun b cs hc => ⟨cs, (h.block b (Array.getElem?_eq_some_iff.1 hc).1).trans hc, rfl⟩, fun _ _ hb _ => hb.below h⟩
theorem SF.trans (h : SF R0 w w1 x y) (h' : SF R0 w1 w2 x' y') (hx : ∀ b, x' b → x b ∨ w.heap.size ≤ b) (hy : ∀ b, y b → z b) (hy' : ∀ b, y' b → z b) : SF R0 w w2 x z := by
 refine ⟨h.1.step h'.1 (fun b hb => ?_), fun b cs hc ha => ?_, fun b cs hc => ?_, fun b cs hb hn => h'.2.2.2 b cs (h.2.2.2 b cs hb (fun e => hn (hy b e))) (fun e => hn (hy' b e))⟩
 ·
  rcases hb with ⟨h0, cs, hcs⟩ | hb
  · by_cases hlt : b < w.heap.size
    · by_cases hx : (R0 b ∧ Uz w b) ∨ x b
      · exact .inl hx
      · exact absurd (.inl ⟨h0, cs, (h.1.block b hlt hx).symm.trans hcs.1, hcs.2⟩) hx
    · exact .inr (by omega)
  · exact (hx b hb).imp (fun h => .inr h) id
 · obtain ⟨c1, e1, s1, a1⟩ := h.2.1 b cs hc ha
   obtain ⟨c2, e2, s2, a2⟩ := h'.2.1 b c1 e1 a1
   exact ⟨c2, e2, s2.trans s1, a2⟩
 · obtain ⟨c1, e1, s1⟩ := h.2.2.1 b cs hc
   obtain ⟨c2, e2, s2⟩ := h'.2.2.1 b c1 e1
   exact ⟨c2, e2, s2.trans s1⟩
theorem SF.wide (h : SF R0 w w' x y) (hx : ∀ b, x b → x' b) (hy : ∀ b, y b → y' b) : SF R0 w w' x' y' := ⟨⟨h.1.os, h.1.tape, h.1.output, h.1.size, fun b hb hn => h.1.block b hb (fun e => hn (e.imp id (hx b)))⟩, h.2.1, h.2.2.1, fun b cs hb hn => h.2.2.2 b cs hb (fun e => hn (hy b e))⟩
theorem two_types {b : Nat} {t t' : TypeId} {cs cs' : Array Value} (h : Blk w b t cs) (h' : Blk w b t' cs') : t = t' ∧ cs = cs' := by
 have h : w.heap[b]? = some (Obj.cells cs t (0, 0)) := h
 have h' : w.heap[b]? = some (Obj.cells cs' t' (0, 0)) := h'
 rw [h] at h'
 injection h' with h'
 injection h' with e1 e2 _
 exact ⟨e2, e1⟩
theorem SF.limb {g i : Nat} {cs : Array Value} (hR : R0 g) (hg : w.heap[g]? = some (Obj.cells cs 69 (0, 0))) (ha : ∀ u ∈ cs.toList, ∃ z : Int, u = .int .u32 z) (z : Int) : SF R0 w (w.setCell ⟨g, i, none⟩ (.int .u32 z)) x y := by
 have hb : Blk w g 69 cs := hg
 have hall : ∀ u ∈ (cs.setIfInBounds i (.int .u32 z)).toList, ∃ z : Int, u = .int .u32 z := by
  intro u hu
  rw [Array.toList_setIfInBounds] at hu
  rcases List.mem_or_eq_of_mem_set hu with h | h
  · exact ha u h
  · exact ⟨z, h⟩
 refine ⟨(Fr.refl w _).set (b := g) (.inl (.inl ⟨hR, cs, hg, ha⟩)) i _, fun b cs' hc ha' => ?_, fun b cs' hc => ?_, fun b cs' hc _ => ?_⟩
 · by_cases e : b = g
   · subst e
     obtain ⟨_, rfl⟩ := two_types hb hc
     exact ⟨_, hb.put i _, by simp, hall⟩
   · exact ⟨cs', Blk.far (show Blk w b 69 cs' from hc) e i _, rfl, ha'⟩
 · have e : b ≠ g := fun e => by subst e; exact absurd (two_types hb hc).1 (by decide)
   exact ⟨cs', Blk.far (show Blk w b 9 cs' from hc) e i _, rfl⟩
 · have e : b ≠ g := fun e => by subst e; exact absurd (two_types hb hc).1 (by decide)
   exact hc.far e i _
theorem SF.name {g i : Nat} {cs : Array Value} (hx : x g) (hb : Blk w g 9 cs) (u : Value) : SF R0 w (w.setCell ⟨g, i, none⟩ u) x y := by
 refine ⟨(Fr.refl w _).set (b := g) (.inl (.inr hx)) i _, fun b cs' hc ha' => ?_, fun b cs' hc => ?_, fun b cs' hc _ => ?_⟩
 · have e : b ≠ g := fun e => by subst e; exact absurd (two_types hb hc).1 (by decide)
   exact ⟨cs', Blk.far (show Blk w b 69 cs' from hc) e i _, rfl, ha'⟩
 · by_cases e : b = g
   · subst e
     obtain ⟨_, rfl⟩ := two_types hb hc
     exact ⟨_, hb.put i _, by simp⟩
   · exact ⟨cs', Blk.far (show Blk w b 9 cs' from hc) e i _, rfl⟩
 · have e : b ≠ g := fun e => by subst e; exact absurd (two_types hb hc).1 (by decide)
   exact hc.far e i _
theorem SF.kid {g i : Nat} {cs : Array Value} (hx : x g) (hy : y g) (hb : Blk w g 28 cs) (u : Value) : SF R0 w (w.setCell ⟨g, i, none⟩ u) x y := by
 refine ⟨(Fr.refl w _).set (b := g) (.inl (.inr hx)) i _, fun b cs' hc ha' => ?_, fun b cs' hc => ?_, fun b cs' hc hn => ?_⟩
 · have e : b ≠ g := fun e => by subst e; exact absurd (two_types hb hc).1 (by decide)
   exact ⟨cs', Blk.far (show Blk w b 69 cs' from hc) e i _, rfl, ha'⟩
 · have e : b ≠ g := fun e => by subst e; exact absurd (two_types hb hc).1 (by decide)
   exact ⟨cs', Blk.far (show Blk w b 9 cs' from hc) e i _, rfl⟩
 · have e : b ≠ g := fun e => hn (e ▸ hy)
   exact hc.far e i _
theorem sf_six (g p0 p1 p2 p3 p4 p5 : Nat) {cs : Array Value} (hb : Blk w g 28 cs) (u0 u1 u2 u3 u4 u5 : Value) :
    SF R0 w ((((((w.setCell ⟨g, p0, none⟩ u0).setCell ⟨g, p1, none⟩ u1).setCell ⟨g, p2, none⟩ u2).setCell ⟨g, p3, none⟩ u3).setCell ⟨g, p4, none⟩ u4).setCell ⟨g, p5, none⟩ u5) (fun x => x = g) (fun x => x = g) := by
  have key : ∀ {w1 : World} {cs : Array Value}, SF R0 w w1 (fun x => x = g) (fun x => x = g) → Blk w1 g 28 cs → ∀ (p : Nat) (u : Value), SF R0 w (w1.setCell ⟨g, p, none⟩ u) (fun x => x = g) (fun x => x = g) := fun h hb p u => h.trans (SF.kid (x := fun x => x = g) (y := fun x => x = g) rfl rfl hb u) (fun _ h => .inl h) (fun _ h => h) (fun _ h => h)
  have h0 : SF R0 w w (fun x => x = g) (fun x => x = g) := SF.of_below (Below.refl _ _)
  exact key (key (key (key (key (key h0 hb p0 u0) (hb.put p0 u0) p1 u1) ((hb.put p0 u0).put p1 u1) p2 u2) (((hb.put p0 u0).put p1 u1).put p2 u2) p3 u3) ((((hb.put p0 u0).put p1 u1).put p2 u2).put p3 u3) p4 u4) (((((hb.put p0 u0).put p1 u1).put p2 u2).put p3 u3).put p4 u4) p5 u5
theorem Lz.sf {A : Option Addr} {c : Nat} (h : Lz w R0 A c) (hs : SF R0 w w' x y) : Lz w' R0 A c := by
 rcases h with h | ⟨g, cs, hA, hR, hg, hc, ha⟩
 · exact .inl h
 · obtain ⟨cs', e, hs', ha'⟩ := hs.2.1 g cs hg ha
   exact .inr ⟨g, cs', hA, hR, e, by omega, ha'⟩
theorem Nz.sf {lo hi : Nat} {A : Option Addr} {c : Nat} (h : Nz w lo hi A c) (hs : SF R0 w w' x y) : Nz w' lo hi A c := by
 rcases h with h | ⟨g, cs, hA, h1, h2, hg, hc⟩
 · exact .inl h
 · obtain ⟨cs', e, hs'⟩ := hs.2.2.1 g cs hg
   exact .inr ⟨g, cs', hA, h1, h2, e, by omega⟩
end
def KCells (w : World) (g i n : Nat) (rs : List Kc) : Prop := ∃ cs, Blk w g 28 cs ∧ cs.size = n * 6 ∧ ∀ j, i ≤ j → j < n → ∀ q, q < 6 → cs[j * 6 + q]? = (kcl (rs.getD j kc0))[q]?
theorem KCells.same {w w' : World} {g i n : Nat} {rs : List Kc} (h : KCells w g i n rs) (e : w'.heap[g]? = w.heap[g]?) : KCells w' g i n rs := by
 obtain ⟨cs, hb, h⟩ := h
 exact ⟨cs, e.trans hb, h⟩
theorem KCells.six {w : World} {g i n : Nat} {rs : List Kc} (h : KCells w g i n rs) (hi : i < n) {c : Kc} (hc : rs.getD i kc0 = c) : six w g (i * 6) c.1 c.2.1 c.2.2.1 c.2.2.2.1 c.2.2.2.2.1 c.2.2.2.2.2 := by
 obtain ⟨cs, hb, _, h⟩ := h
 subst hc
 refine ⟨(hb.cell _).trans (h i (Nat.le_refl _) hi 0 (by omega)), (hb.cell _).trans (h i (Nat.le_refl _) hi 1 (by omega)), (hb.cell _).trans (h i (Nat.le_refl _) hi 2 (by omega)), (hb.cell _).trans (h i (Nat.le_refl _) hi 3 (by omega)), (hb.cell _).trans (h i (Nat.le_refl _) hi 4 (by omega)), (hb.cell _).trans (h i (Nat.le_refl _) hi 5 (by omega))⟩
theorem KCells.succ {w : World} {g i n : Nat} {rs : List Kc} (h : KCells w g i n rs) : KCells w g (i + 1) n rs := by
 obtain ⟨cs, hb, hs, h⟩ := h
 exact ⟨cs, hb, hs, fun j h1 => h j (by omega)⟩
theorem KCells.set {w : World} {g i n : Nat} {rs : List Kc} (h : KCells w g i n rs) {p : Nat} (u : Value) (hp : p < i * 6) : KCells (w.setCell ⟨g, p, none⟩ u) g i n rs := by
 obtain ⟨cs, hb, hs, h⟩ := h
 refine ⟨_, hb.put p u, by simpa using hs, fun j h1 h2 q hq => ?_⟩
 rw [Array.getElem?_setIfInBounds, if_neg (by omega)]
 exact h j h1 h2 q hq
theorem KCells.free {w : World} {g i n : Nat} {rs : List Kc} (h : KCells w g i n rs) (p : Nat) : w.frozen? ⟨g, p, none⟩ = false := by
 obtain ⟨cs, hb, _⟩ := h
 exact hb.free p
theorem kzs_six (n i j : Nat) (h : i < n) (hj : j < 6) : (kzs n)[i * 6 + j]? = (kcl kc0)[j]? := by
 rw [kzs_get _ _ (by omega), show (i * 6 + j) % 6 = j by omega]
 have : j = 0 ∨ j = 1 ∨ j = 2 ∨ j = 3 ∨ j = 4 ∨ j = 5 := by omega
 rcases this with rfl | rfl | rfl | rfl | rfl | rfl
 all_goals rfl
mutual
def T.Sp (w : World) (R0 : Nat → Prop) : T → Nat → Nat → Kc → Prop
 | .node k nm _ ng _ ks, lo, hi, v => ∃ A1 n1 c1 A2 n2 c2 A3 c3, v = tc k nm A1 n1 c1 ng A2 n2 c2 A3 ks.length c3 ∧ lo ≤ hi ∧ n1 ≤ c1 ∧ c1 ≤ maxLen ∧ Nz w lo hi A1 c1 ∧ n2 ≤ c2 ∧ c2 ≤ maxLen ∧ Lz w R0 A2 c2 ∧
  ((A3 = Option.none ∧ c3 = 0 ∧ ks = []) ∨ ∃ g rs, A3 = some ⟨g, 0, Option.none⟩ ∧ (lo ≤ g ∧ g < hi) ∧ KRow w g ks.length c3 rs ∧ T.Sps w R0 ks g lo hi rs)
def T.Sps (w : World) (R0 : Nat → Prop) : List T → Nat → Nat → Nat → List Kc → Prop
 | [], _, lo, hi, rs => rs = [] ∧ lo ≤ hi
 | t :: r, g, lo, hi, rs => ∃ c q a mid, rs = c :: q ∧ lo ≤ a ∧ a ≤ mid ∧ (g < a ∨ mid ≤ g) ∧ T.Sp w R0 t a mid c ∧ T.Sps w R0 r g mid hi q
end
section
variable {R0 : Nat → Prop} {w w' : World} {x y : Nat → Prop}
theorem T.Sps.le : ∀ (ks : List T) (g lo hi : Nat) (rs : List Kc), T.Sps w R0 ks g lo hi rs → lo ≤ hi
 | [], _, _, _, _, h => by simp only [T.Sps] at h; exact h.2
 | t :: r, g, lo, hi, rs, h => by
  simp only [T.Sps] at h
  obtain ⟨c, q, a, mid, _, h1, h2, _, _, h3⟩ := h
  have := T.Sps.le r g mid hi q h3
  omega
theorem KRow.sf {g n c : Nat} {rs : List Kc} (h : KRow w g n c rs) (hs : SF R0 w w' x y) (hx : ¬ y g) : KRow w' g n c rs := by
 obtain ⟨cur, hb, h⟩ := h
 exact ⟨cur, hs.2.2.2 g cur hb hx, h⟩
mutual
theorem T.Sp.sf (hs : SF R0 w w' x y) : ∀ (t : T) (lo hi : Nat) (v : Kc), T.Sp w R0 t lo hi v → (∀ b, lo ≤ b → b < hi → ¬ y b) → T.Sp w' R0 t lo hi v
 | .node k nm ns ng mg ks, lo, hi, v, h, hx => by
  simp only [T.Sp] at h ⊢
  obtain ⟨A1, n1, c1, A2, n2, c2, A3, c3, e, h1, h2, h3, h4, h5, h6, h7, h8⟩ := h
  refine ⟨A1, n1, c1, A2, n2, c2, A3, c3, e, h1, h2, h3, h4.sf hs, h5, h6, h7.sf hs, ?_⟩
  rcases h8 with h8 | ⟨g, rs, hA, hg, hr, hk⟩
  · exact .inl h8
  · exact .inr ⟨g, rs, hA, hg, hr.sf hs (hx g hg.1 hg.2), T.Sps.sf hs ks g lo hi rs hk (fun b b1 b2 _ => hx b b1 b2)⟩
theorem T.Sps.sf (hs : SF R0 w w' x y) : ∀ (ks : List T) (g lo hi : Nat) (rs : List Kc), T.Sps w R0 ks g lo hi rs → (∀ b, lo ≤ b → b < hi → b ≠ g → ¬ y b) → T.Sps w' R0 ks g lo hi rs
 | [], _, _, _, _, h, _ => by simp only [T.Sps] at h ⊢; exact h
 | t :: r, g, lo, hi, rs, h, hx => by
  simp only [T.Sps] at h ⊢
  obtain ⟨c, q, a, mid, e, h1, h2, h3, h4, h5⟩ := h
  have hle := T.Sps.le r g mid hi q h5
  exact ⟨c, q, a, mid, e, h1, h2, h3, T.Sp.sf hs t a mid c h4 (fun b b1 b2 => hx b (by omega) (by omega) (by omega)), T.Sps.sf hs r g mid hi q h5 (fun b b1 b2 b3 => hx b (by omega) b2 b3)⟩
end
mutual
theorem T.GotE.sp : ∀ (t : T) (lo hi : Nat) (v : Kc), T.GotE w R0 N0 t lo hi v → T.Sp w R0 t lo hi v
 | .node k nm ns ng mg ks, lo, hi, v, h => by
  simp only [T.GotE] at h
  simp only [T.Sp]
  obtain ⟨A1, c1, A2, c2, A3, c3, e, h1, h2, h3, h4⟩ := h
  refine ⟨A1, _, c1, A2, _, c2, A3, c3, e, h1, h2.1.1, h2.2.1, ?_, h3.1.1.cap, h3.2.1, ?_, ?_⟩
  · rcases h2.2.2 with h | ⟨g, cs, hA, hg, hc, hl⟩
    · exact .inl h
    · exact .inr ⟨g, cs, hA, hg.1, hg.2.1, hc, hl⟩
  · rcases h3.2.2 with h | ⟨g, cs, hA, hg, hc, hl, ha⟩
    · exact .inl h
    · exact .inr ⟨g, cs, hA, hg, hc, hl, ha⟩
  · rcases h4 with h | ⟨g, rs, hA, hg, hr, hk⟩
    · exact .inl h
    · exact .inr ⟨g, rs, hA, ⟨hg.1, hg.2.1⟩, hr, T.GotEs.sp ks g lo hi rs hk⟩
theorem T.GotEs.sp : ∀ (ks : List T) (g lo hi : Nat) (rs : List Kc), T.GotEs w R0 N0 ks g lo hi rs → T.Sps w R0 ks g lo hi rs
 | [], _, _, _, _, h => by simp only [T.GotEs] at h; simp only [T.Sps]; exact h
 | t :: r, g, lo, hi, rs, h => by
  simp only [T.GotEs] at h
  simp only [T.Sps]
  obtain ⟨c, q, a, mid, e, h1, h2, h3, h4, h5⟩ := h
  exact ⟨c, q, a, mid, e, h1, h2, h3, T.GotE.sp t a mid c h4, T.GotEs.sp r g mid hi q h5⟩
end
theorem T.Sps.drop {ks : List T} {g lo hi : Nat} {rs : List Kc} {i : Nat} (h : T.Sps w R0 (ks.drop i) g lo hi (rs.drop i)) (hi2 : i < ks.length) :
    ∃ a mid, rs[i]? = some (rs.getD i kc0) ∧ ks[i]? = some (ks.getD i t0) ∧ lo ≤ a ∧ a ≤ mid ∧ mid ≤ hi ∧ (g < a ∨ mid ≤ g) ∧ T.Sp w R0 (ks.getD i t0) a mid (rs.getD i kc0) ∧ T.Sps w R0 (ks.drop (i + 1)) g mid hi (rs.drop (i + 1)) := by
  have e : ks.drop i = ks.getD i t0 :: ks.drop (i + 1) := by rw [List.drop_eq_getElem_cons hi2]; simp [List.getD, hi2]
  rw [e] at h
  simp only [T.Sps] at h
  obtain ⟨c, q, a, mid, hrs, h1, h2, hg, ht, hr⟩ := h
  have hlt : i < rs.length := by
   refine Nat.lt_of_not_le fun hge => ?_
   rw [List.drop_eq_nil_of_le hge] at hrs
   cases hrs
  have e2 : rs.drop i = rs.getD i kc0 :: rs.drop (i + 1) := by rw [List.drop_eq_getElem_cons hlt]; simp [List.getD, hlt]
  rw [e2] at hrs
  injection hrs with hc hq
  rw [← hc] at ht
  rw [← hq] at hr
  exact ⟨a, mid, by simp [List.getD, hlt], by simp [List.getD, hi2], h1, h2, T.Sps.le _ _ _ _ _ hr, hg, ht, hr⟩
theorem kc0_sp (w : World) (R0 : Nat → Prop) (hi : Nat) : T.Sp w R0 t0 hi hi kc0 := by
 unfold t0
 rw [T.Sp]
 exact ⟨none, 0, 0, none, 0, 0, none, 0, rfl, Nat.le_refl _, Nat.le_refl _, Nat.zero_le _, .inl ⟨rfl, rfl⟩, Nat.le_refl _, Nat.zero_le _, .inl ⟨rfl, rfl⟩, .inl ⟨rfl, rfl, rfl⟩⟩
theorem T.Sps.snoc0 : ∀ (ks : List T) (g lo hi : Nat) (rs : List Kc), T.Sps w R0 ks g lo hi rs → g < hi → T.Sps w R0 (ks ++ [t0]) g lo hi (rs ++ [kc0])
 | [], g, lo, hi, rs, h, hg => by
  simp only [T.Sps] at h
  obtain ⟨rfl, hle⟩ := h
  simp only [List.nil_append, T.Sps]
  exact ⟨kc0, [], hi, hi, rfl, hle, Nat.le_refl _, .inl hg, kc0_sp _ _ _, rfl, Nat.le_refl _⟩
 | t :: r, g, lo, hi, rs, h, hg => by
  simp only [T.Sps] at h
  obtain ⟨c, q, a, mid, rfl, h1, h2, h3, h4, h5⟩ := h
  simp only [List.cons_append, T.Sps]
  exact ⟨c, q ++ [kc0], a, mid, rfl, h1, h2, h3, h4, T.Sps.snoc0 r g mid hi q h5 hg⟩
theorem sps_room {ks : List T} {g m hi : Nat} {rs : List Kc} (h : T.Sps w R0 ks g m hi rs) (hg : g < hi) : ∀ n, T.Sps w R0 (ks ++ List.replicate n t0) g m hi (rs ++ List.replicate n kc0)
 | 0 => by simpa using h
 | n + 1 => by
  have := T.Sps.snoc0 _ _ _ _ _ (sps_room h hg n) hg
  rw [List.replicate_succ', List.replicate_succ', ← List.append_assoc, ← List.append_assoc]
  exact this
end
set_option maxRecDepth 100000 in
set_option maxHeartbeats 1600000 in
theorem spoil_walk {R0 : Nat → Prop} (w : World) (lo hi : Nat) (k : Int) (nm : ByteArray) (A1 : Option Addr) (n1 c1 : Nat) (ng : Bool) (A2 : Option Addr) (n2 c2 : Nat) (A3 : Option Addr) (n3 c3 : Nat)
    (_ : lo ≤ hi) (hh : hi ≤ w.heap.size) (h0 : ∀ b, R0 b → b < w.heap.size) (hs : Nz w lo hi A1 c1) (hm : Lz w R0 A2 c2) (_ : n1 ≤ c1) (_ : n2 ≤ c2) (hc1 : c1 ≤ maxLen) (hc2 : c2 ≤ maxLen)
    (hk : (A3 = none ∧ n3 = 0 ∧ c3 = 0) ∨ ∃ g ks rs, A3 = some ⟨g, 0, none⟩ ∧ lo ≤ g ∧ g < hi ∧ n3 ≤ c3 ∧ c3 ≤ maxLen ∧ ks.length = c3 ∧ T.Sps w R0 ks g lo hi rs ∧ KCells w g 0 c3 rs ∧
      ∀ (i : Nat) u c, ks[i]? = some u → rs[i]? = some c → ∀ w a b, T.Sp w R0 u a b c → b ≤ w.heap.size → (∀ b, R0 b → b < w.heap.size) → Calls Tryz.prog 14 #[kv c] w fun e w' => e = .returned (.tuple #[]) ∧ SF R0 w w' (fun x => a ≤ x ∧ x < b) (fun x => a ≤ x ∧ x < b)) :
    Calls Tryz.prog 14 #[.agg #[.int .i64 k, .string nm, .slice A1 n1 c1, .bool ng, .slice A2 n2 c2, .slice A3 n3 c3]] w fun e w' => e = .returned (.tuple #[]) ∧ SF R0 w w' (fun x => lo ≤ x ∧ x < hi) (fun x => lo ≤ x ∧ x < hi) := by
  have HM := Lib.hid hm
  have HSN := Lib.hid hs
  have HK := Lib.hid hk
  clear hm hs hk
  unfold maxLen at hc1 hc2
  have hz1 : (0 : Int) ≤ c1 := by omega
  have hz2 : (0 : Int) ≤ c2 := by omega
  go_enter Tryz.func14, Tryz.ntmps14
  go_upto_region 1 with (fail)
  obtain ⟨W1, hW1, pt, hb1⟩ := made_blk w #[.int .i64 k, .string nm, .slice A1 n1 c1, .bool ng, .slice A2 n2 c2, .slice A3 n3 c3] 28
  obtain ⟨Bt, hBt⟩ : ∃ b, b = w.heap.size := ⟨_, rfl⟩
  rw [← hW1, ← hBt]
  rw [← hBt] at pt
  have hS0 : SF R0 w W1 (fun x => lo ≤ x ∧ x < hi) (fun _ => False) := SF.of_below hb1
  have hBt2 : hi ≤ Bt := by omega
  have hBt3 : ∀ b, R0 b → b < Bt := fun b h => by have := h0 b h; omega
  have hs1 := hb1.size
  clear hW1 hBt hb1
  obtain ⟨x0, x1, x2, x3, x4, x5⟩ := pt.six
  go_upto_region 2 with (fail)
  go_wp2_with fail
  go_loopg [3] (c2 + 1) (fun gk vi wr => ∃ (i : Nat), gk + i = c2 + 1 ∧ i ≤ c2 ∧ vi = .int .i64 (i : Nat) ∧ SF R0 w wr (fun x => lo ≤ x ∧ x < hi) (fun _ => False) ∧ Blk wr Bt 28 #[.int .i64 k, .string nm, .slice A1 n1 c1, .bool ng, .slice A2 n2 c2, .slice A3 n3 c3])
  case atStart => exact ⟨0, by omega, Nat.zero_le _, rfl, hS0, pt⟩
  case round =>
   clear x0 x1 x2 x3 x4 x5 hS0 pt
   obtain ⟨i, hi', hin, rfl, hS, pt⟩ := hrel
   obtain ⟨x0, x1, x2, x3, x4, x5⟩ := pt.six
   by_cases hlt : i < c2
   ·
    have hi3 : decide (i < c2) = true := decide_eq_true hlt
    have hLz := HM.out.sf hS
    rcases hLz with ⟨_, hz⟩ | ⟨g, cs, rfl, hR, hg, hcs, ha⟩
    · omega
    ·
     obtain ⟨z, hz⟩ : ∃ z : Int, cs[i]? = some (.int .u32 z) := by
      have hl : i < cs.size := by omega
      obtain ⟨z, hz⟩ := ha (cs[i]'hl) (Array.getElem_mem_toList hl)
      exact ⟨z, by rw [Array.getElem?_eq_getElem hl, hz]⟩
     have hgb : Blk wr g 69 cs := hg
     have y0 : wr.cell? ⟨g, i, none⟩ = some (.int .u32 z) := (hgb.cell i).trans hz
     have y1 := hgb.free i
     have hneb : ¬ (g = Bt) := by have := hBt3 g hR; omega
     have hneb2 : ¬ (Bt = g) := fun e => hneb e.symm
     have hi0 : (0 : Int) ≤ i := by omega
     have hi1 : (i : Int) < c2 := by omega
     clear hz hgb
     go_wp2_with fail
     go_roundg (c2 - i)
     case measure => omega
     case rel => exact ⟨i + 1, by omega, by omega, by go_num, hS.trans (SF.limb (x := fun _ => False) (y := fun _ => False) hR hg ha _) (fun _ h => h.elim) (fun _ h => h) (fun _ h => h), pt.far hneb2 _ _⟩
   ·
    have hi3 : decide (i < c2) = false := decide_eq_false hlt
    go_wp2_with fail
    go_loopg [5] (c1 + 1) (fun gk vi wr => ∃ (i : Nat), gk + i = c1 + 1 ∧ i ≤ c1 ∧ vi = .int .i64 (i : Nat) ∧ SF R0 w wr (fun x => lo ≤ x ∧ x < hi) (fun _ => False) ∧ Blk wr Bt 28 #[.int .i64 k, .string nm, .slice A1 n1 c1, .bool ng, .slice A2 n2 c2, .slice A3 n3 c3])
    case atStart => exact ⟨0, by omega, Nat.zero_le _, rfl, hS, pt⟩
    case round =>
     clear x0 x1 x2 x3 x4 x5 hS pt
     obtain ⟨i, hi', hin, rfl, hS, pt⟩ := hrel
     obtain ⟨x0, x1, x2, x3, x4, x5⟩ := pt.six
     by_cases hlt : i < c1
     ·
      have hi3 : decide (i < c1) = true := decide_eq_true hlt
      have hnz := HSN.out.sf hS
      rcases hnz with ⟨_, hz⟩ | ⟨g, cs, rfl, h1, h2, hg, hcs⟩
      · omega
      ·
       have hl : i < cs.size := by omega
       have hgb : Blk wr g 9 cs := hg
       obtain ⟨v0, hv0⟩ : ∃ v, cs[i]? = some v := ⟨_, Array.getElem?_eq_getElem hl⟩
       have y0 : wr.cell? ⟨g, i, none⟩ = some v0 := (hgb.cell i).trans hv0
       have y1 := hgb.free i
       have hneb : ¬ (g = Bt) := by omega
       have hneb2 : ¬ (Bt = g) := fun e => hneb e.symm
       have hi0 : (0 : Int) ≤ i := by omega
       have hi1 : (i : Int) < c1 := by omega
       clear hv0
       go_wp2_with fail
       go_roundg (c1 - i)
       case measure => omega
       case rel => exact ⟨i + 1, by omega, by omega, by go_num, hS.trans (SF.name (x := fun x => lo ≤ x ∧ x < hi) (y := fun _ => False) ⟨h1, h2⟩ hgb _) (fun _ h => .inl h) (fun _ h => h) (fun _ h => h), pt.far hneb2 _ _⟩
     ·
      have hi3 : decide (i < c1) = false := decide_eq_false hlt
      have hSw := hS.wide (x' := fun x => lo ≤ x ∧ x < hi) (y' := fun x => lo ≤ x ∧ x < hi) (fun _ h => h) (fun _ h => h.elim)
      rcases HK.out with ⟨rfl, rfl, rfl⟩ | ⟨g, ks, rs, rfl, hg1, hg2, hnc, hcm, hkl, hnw, hkc, hcall⟩
      · go_wp2_with fail
        go_loopg [7] 1 (fun gk vi wr2 => gk = 1 ∧ vi = .int .i64 (0 : Nat) ∧ wr2 = wr)
        case atStart => exact ⟨rfl, rfl, rfl⟩
        case round =>
         obtain ⟨hgk, rfl, rfl⟩ := hrel
         go_wp2_with fail
         go_end0
         exact ⟨rfl, hSw⟩
      ·
       have HC := Lib.hid hcall
       obtain ⟨curK, hbK, hKK⟩ := hkc
       have HNW := Lib.hid (T.Sps.sf hS _ _ _ _ _ hnw (fun _ _ _ _ e => e))
       have HKC : Hid (KCells wr g 0 c3 rs) := Lib.hid ⟨curK, hS.2.2.2 g curK hbK (fun e => e), hKK⟩
       clear hcall hnw hbK hKK
       have hc0 : (0 : Int) ≤ c3 := by omega
       unfold maxLen at hcm
       go_wp2_with fail
       go_loopg [7] (c3 + 1) (fun gk vi wr2 => ∃ (i lo' : Nat), gk + i = c3 + 1 ∧ i ≤ c3 ∧ vi = .int .i64 (i : Nat) ∧ SF R0 w wr2 (fun x => lo ≤ x ∧ x < hi) (fun x => lo ≤ x ∧ x < hi) ∧ lo ≤ lo' ∧ T.Sps wr2 R0 (ks.drop i) g lo' hi (rs.drop i) ∧ KCells wr2 g i c3 rs)
       case atStart => exact ⟨0, lo, by omega, Nat.zero_le _, rfl, hSw, Nat.le_refl _, HNW.out, HKC.out⟩
       case round =>
        clear x0 x1 x2 x3 x4 x5 HNW HKC hSw pt hS
        obtain ⟨i, lo', hi', hin, rfl, hS, hlo', hnw, hkc⟩ := hrel
        by_cases hlt : i < c3
        ·
         have hi3 : decide (i < c3) = true := decide_eq_true hlt
         obtain ⟨a, mid, e1, e2, h1, h2, h3, hgg, ht, hr⟩ := hnw.drop (by omega)
         obtain ⟨c, hc⟩ : ∃ c, rs.getD i kc0 = c := ⟨_, rfl⟩
         have h6 := hkc.six hlt hc
         rw [hc] at e1 ht
         obtain ⟨z0, z1, z2, z3, z4, z5⟩ := h6
         have HT := Lib.hid ht
         have HR := Lib.hid hr
         have hsz := hS.1.size
         have hi0 : (0 : Int) ≤ i := by omega
         have hi1 : (i : Int) < c3 := by omega
         clear hnw ht hr
         go_upto_region 16 with (go_at_call 14; refine (HC.out i _ c e2 e1 _ a mid HT.out (by omega) (fun b hb => Nat.lt_of_lt_of_le (h0 b hb) hsz)).mono ?_; rintro e w2 ⟨rfl, hS2⟩)
         obtain ⟨cs2, hb2, hz2', hK2⟩ := hkc
         have hkc2 : KCells w2 g i c3 rs := ⟨cs2, hS2.2.2.2 g cs2 hb2 (by show ¬ (a ≤ g ∧ g < mid); omega), hz2', hK2⟩
         have HR2 := Lib.hid (T.Sps.sf hS2 _ _ _ _ _ HR.out (fun b hb1 hb2 hb3 => by show ¬ (a ≤ b ∧ b < mid); omega))
         have hS3 := hS.trans (z := fun x => lo ≤ x ∧ x < hi) hS2 (fun k hk => .inl ⟨by have := hk.1; omega, by have := hk.2; omega⟩) (fun _ h => h) (fun k hk => ⟨by have := hk.1; omega, by have := hk.2; omega⟩)
         have hkc2' := hkc2
         obtain ⟨z0, z1, z2, z3, z4, z5⟩ := hkc2.six hlt hc
         have f0 := hkc2.free (i * 6)
         have f1 := hkc2.free (i * 6 + 1)
         have f2 := hkc2.free (i * 6 + 2)
         have f3 := hkc2.free (i * 6 + 3)
         have f4 := hkc2.free (i * 6 + 4)
         have f5 := hkc2.free (i * 6 + 5)
         go_wp2_with fail
         obtain ⟨W3, hW3⟩ : ∃ W, W = (((((w2.setCell ⟨g, i * 6, none⟩ (.int .i64 66)).setCell ⟨g, i * 6 + 1, none⟩ (.string ⟨#[115, 112, 111, 105, 108, 116]⟩)).setCell ⟨g, i * 6 + 2, none⟩ (.slice none 0 0)).setCell ⟨g, i * 6 + 3, none⟩ (.bool false)).setCell ⟨g, i * 6 + 4, none⟩ (.slice none 0 0)).setCell ⟨g, i * 6 + 5, none⟩ (.slice none 0 0) := ⟨_, rfl⟩
         rw [← hW3]
         obtain ⟨cs3, hb3, _, _⟩ := hkc2
         have S3 : SF R0 w2 W3 (fun x => x = g) (fun x => x = g) := by rw [hW3]; exact sf_six g (i * 6) (i * 6 + 1) (i * 6 + 2) (i * 6 + 3) (i * 6 + 4) (i * 6 + 5) hb3 _ _ _ _ _ _
         have K3 : KCells W3 g (i + 1) c3 rs := by rw [hW3]; exact ((((((hkc2'.succ.set _ (by omega)).set _ (by omega)).set _ (by omega)).set _ (by omega)).set _ (by omega)).set _ (by omega))
         clear hW3
         have N3 := T.Sps.sf S3 _ _ _ _ _ HR2.out (fun b _ _ h e => h e)
         go_roundg (c3 - i)
         case measure => omega
         case rel => exact ⟨i + 1, mid, by omega, by omega, by go_num, hS3.trans S3 (fun k hk => .inl (by have : k = g := hk; omega)) (fun _ h => h) (fun k hk => by have : k = g := hk; show lo ≤ k ∧ k < hi; omega), by omega, N3, K3⟩
        · have hi3 : decide (i < c3) = false := decide_eq_false hlt
          go_wp2_with fail
          go_end0
          exact ⟨rfl, hS⟩
theorem spoil_zero {R0 : Nat → Prop} (w : World) (h0 : ∀ b, R0 b → b < w.heap.size) (a b : Nat) : Calls Tryz.prog 14 #[kv kc0] w fun e w' => e = .returned (.tuple #[]) ∧ SF R0 w w' (fun x => a ≤ x ∧ x < b) (fun x => a ≤ x ∧ x < b) := by
 refine (spoil_walk (R0 := R0) w 0 0 0 ⟨#[]⟩ none 0 0 false none 0 0 none 0 0 (Nat.le_refl _) (Nat.zero_le _) h0 (.inl ⟨rfl, rfl⟩) (.inl ⟨rfl, rfl⟩) (Nat.le_refl _) (Nat.le_refl _) (Nat.zero_le _) (Nat.zero_le _) (.inl ⟨rfl, rfl, rfl⟩)).mono ?_
 rintro e w' ⟨rfl, hF⟩
 exact ⟨rfl, hF.wide (fun b e => absurd e.2 (by omega)) (fun b e => absurd e.2 (by omega))⟩
theorem spoil_t {R0 : Nat → Prop} : ∀ (N : Nat) (t : T) (w : World) (lo hi : Nat) (c : Kc), t.bulk ≤ N → N ≤ 1048576 → T.Sp w R0 t lo hi c → hi ≤ w.heap.size → (∀ b, R0 b → b < w.heap.size) →
    Calls Tryz.prog 14 #[kv c] w fun e w' => e = .returned (.tuple #[]) ∧ SF R0 w w' (fun x => lo ≤ x ∧ x < hi) (fun x => lo ≤ x ∧ x < hi)
  | 0, t, _, _, _, _, hN, _, _, _, _ => by have := T.bulk_pos t; omega
  | N + 1, t, w, lo, hi, c, hN, hN2, h, hh, h0 => by
   have ih := spoil_t (R0 := R0) N
   have hkb := fun i hi => T.kid_bulk (i := i) hN hi
   cases t with
   | node k nm ns ng mg ks =>
    simp only [T.Sp] at h
    obtain ⟨A1, n1, c1, A2, n2, c2, A3, c3, rfl, hle, h1, h2, h3, h4, h5, h6, hk⟩ := h
    refine spoil_walk w lo hi k nm A1 n1 c1 ng A2 n2 c2 A3 _ c3 hle hh h0 h3 h6 h1 h4 h2 h5 ?_
    rcases hk with ⟨rfl, rfl, rfl⟩ | ⟨g, rs, rfl, hg, ⟨cur, hb, hnc, hcm, hrl, hcur⟩, hn⟩
    · exact .inl ⟨rfl, rfl, rfl⟩
    ·
     refine .inr ⟨g, ks ++ List.replicate (c3 - ks.length) t0, rs ++ List.replicate (c3 - ks.length) kc0, rfl, hg.1, hg.2, hnc, hcm, by simp; omega, sps_room hn hg.2 _, ⟨cur, hb, ?_, ?_⟩, ?_⟩
     · rw [← Array.length_toList, hcur, List.length_append, kcs_length, kzs_length]; omega
     · intro j _ hj q hq
       rw [← Array.getElem?_toList, hcur]
       by_cases hjn : j < ks.length
       · rw [List.getElem?_append_left (by rw [kcs_length]; omega), kcs_get _ _ _ (by omega) hq]
         simp [List.getD, List.getElem?_append_left (show j < rs.length by omega)]
       · rw [List.getElem?_append_right (by rw [kcs_length]; omega), kcs_length, show j * 6 + q - rs.length * 6 = (j - ks.length) * 6 + q by omega, kzs_six _ _ _ (by omega) hq]
         simp [List.getD, List.getElem?_append_right (show rs.length ≤ j by omega), show j - rs.length < c3 - ks.length by omega]
     ·
      intro i u c hu hc w a b ht hb h0
      by_cases hin : i < ks.length
      · rw [List.getElem?_append_left hin] at hu
        have hub : u.bulk ≤ N := by
         have := hkb i hin
         simp only [T.ks, List.getD, hu, Option.getD_some] at this
         exact this
        exact ih u w a b c hub (by omega) ht hb h0
      · rw [List.getElem?_append_right (by omega)] at hc
        have hc0 : c = kc0 := by
         have := List.mem_of_getElem? hc
         exact (List.mem_replicate.1 this).2
        subst hc0
        exact spoil_zero w h0 a b
end
end Go.Proofs.YthiadenmljbdaaaGreatDoor

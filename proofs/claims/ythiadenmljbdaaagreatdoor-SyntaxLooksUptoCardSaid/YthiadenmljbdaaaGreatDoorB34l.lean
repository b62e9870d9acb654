/-
  l: the parts WLooks0.
-/
import Derived.Test.YthiadenmljbdaaaGreatDoorB21l
import Derived.Test.YthiadenmljbdaaaGreatDoorB22l
import Derived.Test.YthiadenmljbdaaaGreatDoorB33l
namespace Go.Proofs.YthiadenmljbdaaaGreatDoor
section
open Go.RowKit
theorem sf_blk {R0 : Nat → Prop} {w w' : World} {lo hi b : Nat} {ty : TypeId} {cs : Array Value} (hs : SF R0 w w' (fun x => lo ≤ x ∧ x < hi) (fun x => lo ≤ x ∧ x < hi)) (h0 : ∀ b, R0 b → lo ≤ b ∧ b < hi) (h : Blk w b ty cs) (hb : b < lo ∨ hi ≤ b) : Blk w' b ty cs :=
 hs.1.blk h (by rintro (⟨h, _⟩ | h); have := h0 _ h; omega; have : lo ≤ b ∧ b < hi := h; omega)
theorem sf_in {R0 R : Nat → Prop} {w w' : World} {lo hi : Nat} {t : T} {v : Value} (hs : SF R0 w w' (fun x => lo ≤ x ∧ x < hi) (fun x => lo ≤ x ∧ x < hi)) (h0 : ∀ b, R0 b → lo ≤ b ∧ b < hi) (h : T.In w R t v) (hR : ∀ b, R b → b < w.heap.size ∧ (b < lo ∨ hi ≤ b)) : T.In w' R t v :=
 h.fr (fun b hb => hs.1.block b (hR b hb).1 (by have := (hR b hb).2; rintro (⟨h, _⟩ | h); have := h0 _ h; omega; have : lo ≤ b ∧ b < hi := h; omega))
theorem sf_below {R0 : Nat → Prop} {w0 w w' : World} {lo hi : Nat} (hs : SF R0 w w' (fun x => lo ≤ x ∧ x < hi) (fun x => lo ≤ x ∧ x < hi)) (h0 : ∀ b, R0 b → lo ≤ b ∧ b < hi) (hb : Below w0.heap.size w0 w) (hl : w0.heap.size ≤ lo) : Below w0.heap.size w0 w' :=
 hb.trans ⟨hs.1.os, hs.1.tape, hs.1.output, hs.1.size, fun k hk => hs.1.block k (Nat.lt_of_lt_of_le hk hb.size) (by rintro (⟨h, _⟩ | h); have := h0 _ h; omega; have : lo ≤ k ∧ k < hi := h; omega)⟩
open Go.Shelf Go.Sort
theorem free_same {t : T} {L : List (List UInt8)} {L' : List ByteArray} (h : FreeL t L) (hp : L'.Perm (t.fr [] [])) (hs : ∀ a b, a < b → b < L'.length → leS (L'.getD a sE) (L'.getD b sE)) : L.map (fun l => (⟨l.toArray⟩ : ByteArray)) = L' := by
 obtain ⟨hn, hm, ho⟩ := h
 obtain ⟨hn2, hm2⟩ := T.fr_law t [] [] List.nodup_nil
 have e0 : cntL [] = fun _ => 0 := by funext x; simp [cntL]
 rw [e0] at hm2
 have hmap : (L.map (fun l => (⟨l.toArray⟩ : ByteArray))).Nodup := by
  refine List.Pairwise.map _ (fun a b hab e => hab ?_) hn
  have := congrArg (fun s : ByteArray => s.data.toList) e
  simpa using this
 refine List.Perm.eq_of_pairwise (le := leS) (fun a b _ _ h1 h2 => ?_) (List.Pairwise.map _ (fun a b hab => ?_) ho) ?_ ((List.perm_ext_iff_of_nodup hmap (hp.nodup_iff.2 hn2)).2 fun s => ?_)
 · have := List.le_antisymm h1 h2
   cases a; cases b
   simpa [Array.toList_inj] using this
 · simp only [leB, decide_eq_true_eq] at hab
   simpa [leS] using hab
 · rw [List.pairwise_iff_getElem]
   intro i j hi hj hij
   have := hs i j hij hj
   simpa [List.getD, hi, hj] using this
 ·
  rw [hp.mem_iff, hm2 s, ← hm s.data.toList, List.mem_map]
  constructor
  · rintro ⟨x, hx, rfl⟩
    exact .inr (by simpa using hx)
  · rintro (hx | hx)
    · exact absurd hx (by simp)
    · exact ⟨_, hx, by cases s; simp⟩
theorem row_open {w : World} {base : Nat} {u : Value} {l : List ByteArray} (h : NRow w base u l) : ∃ A c, u = .slice A l.length c ∧ l.length ≤ c ∧ c ≤ maxLen ∧ StrL w (fun b => base ≤ b ∧ b < w.heap.size) A c l ∧ ((A = none ∧ c = 0) ∨ ∃ g cur, A = some ⟨g, 0, none⟩ ∧ base ≤ g ∧ Blk w g 9 cur ∧ cur.size = c) := by
 have h2 := h
 obtain ⟨hl, ⟨e, h0⟩ | ⟨g, cap, cur, e, hb, hg, hc, hm, hz, ht⟩⟩ := h
 · refine ⟨none, 0, by rw [e, h0], by omega, Nat.zero_le _, ⟨by omega, fun hp => by omega⟩, .inl ⟨rfl, rfl⟩⟩
 · subst e
   have hs := row_strl h2
   have hlt : g < w.heap.size := (Array.getElem?_eq_some_iff.1 hg).1
   exact ⟨_, cap, rfl, hc, hm, hs.keep (fun _ _ _ hc => hc) (fun b hb2 => by have e := hb2.1; simp only [Value.ownBlock, Option.some.injEq] at e; subst e; exact ⟨hb, hlt⟩), .inr ⟨g, cur, rfl, hb, hg, by omega⟩⟩
mutual
theorem T.In.cp_bulk {w : World} {R : Nat → Prop} : ∀ {t : T} {v : Value}, T.In w R t v → t.cp.bulk ≤ t.bulk
 | .node k nm ns ng mg ks, v, h => by
  simp only [T.In] at h
  obtain ⟨A1, c1, A2, c2, A3, c3, _, _, h2, _, h4⟩ := h
  have hm : (nrm mg).length ≤ mg.length := N.ofN_nv_length h2.1.lim
  have hk : T.bulks (T.cps ks) ≤ T.bulks ks := by
   by_cases h0 : 0 < ks.length
   · obtain ⟨b, o, _, _, hi⟩ := h4 h0
     exact T.Ins.cps_bulk hi
   · have : ks = [] := List.eq_nil_of_length_eq_zero (by omega)
     subst this
     simp [T.cps]
  simp only [T.cp, T.bulk]
  omega
theorem T.Ins.cps_bulk {w : World} {R : Nat → Prop} {b : Nat} : ∀ {o : Nat} {l : List T}, T.Ins w R b o l → T.bulks (T.cps l) ≤ T.bulks l
 | _, [], _ => by simp [T.cps]
 | o, t :: r, h => by
  simp only [T.Ins] at h
  obtain ⟨⟨v0, v1, v2, v3, v4, v5, _, ht⟩, hr⟩ := h
  have h1 := T.In.cp_bulk ht
  have h2 := T.Ins.cps_bulk hr
  simp only [T.cps, T.bulks]
  omega
end
theorem free_row {w : World} {base : Nat} {u : Value} {t : T} {L : List (List UInt8)} {L' : List ByteArray} (h : FreeL t L) (hp : L'.Perm (t.fr [] [])) (hs : ∀ a b, a < b → b < L'.length → leS (L'.getD a sE) (L'.getD b sE)) (hr : w.ownsRow base 9 1 u L.length (L.map encStr)) : NRow w base u L' := by
 rw [← free_same h hp hs]
 have e : (L.map (fun l => (⟨l.toArray⟩ : ByteArray))).map Value.string = L.map encStr := by rw [List.map_map]; rfl
 show w.ownsRow base 9 1 u _ _
 rw [e, List.length_map]
 exact hr
theorem free_len {t : T} {L : List ByteArray} (hN : t.bulk ≤ 1048576) (hp : L.Perm (t.fr [] [])) : L.length ≤ 1048576 := by
 have h1 := hp.length_eq
 have h2 := t.fr_len [] []
 simp only [List.length_nil] at h2
 omega
theorem sf_keep {R0 : Nat → Prop} {w w' : World} {lo hi b : Nat} (hs : SF R0 w w' (fun x => lo ≤ x ∧ x < hi) (fun x => lo ≤ x ∧ x < hi)) (h0 : ∀ b, R0 b → lo ≤ b ∧ b < hi) (hb : b < w.heap.size) (hx : b < lo ∨ hi ≤ b) : w'.heap[b]? = w.heap[b]? :=
 hs.1.block b hb (by rintro (⟨h, _⟩ | h); have := h0 _ h; omega; have : lo ≤ b ∧ b < hi := h; omega)
theorem strl_below {w w' : World} {R : Nat → Prop} {A : Option Addr} {c : Nat} {ns : List ByteArray} (h : StrL w R A c ns) (hR : ∀ b, R b → b < w.heap.size) (hb : Below w.heap.size w w') : StrL w' R A c ns :=
 h.keep (fun p _ hp hc => (World.cell?_of_block (a := p) (hb.block _ (hR _ hp))).trans hc) (fun _ h => h)
theorem strl_fr {w w' : World} {R x : Nat → Prop} {A : Option Addr} {c : Nat} {ns : List ByteArray} (h : StrL w R A c ns) (hF : Fr w w' x) (hR : ∀ b, R b → b < w.heap.size ∧ ¬ x b) : StrL w' R A c ns :=
 h.keep (fun p _ hp hc => (World.cell?_of_block (a := p) (hF.block _ (hR _ hp).1 (hR _ hp).2)).trans hc) (fun _ h => h)
theorem fr_low {w w' : World} {x : Nat → Prop} {B : Nat} (h : Fr w w' x) (hB : B ≤ w.heap.size) (hx : ∀ k, x k → B ≤ k) : Below B w w' :=
 ⟨h.os, h.tape, h.output, h.size, fun k hk => h.block k (by omega) (fun e => by have := hx k e; omega)⟩
end
end Go.Proofs.YthiadenmljbdaaaGreatDoor

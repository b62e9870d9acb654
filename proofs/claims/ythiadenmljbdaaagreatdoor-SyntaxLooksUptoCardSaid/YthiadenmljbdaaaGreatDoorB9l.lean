/-
  l: the parts YCopy.
-/
import Derived.Test.YthiadenmljbdaaaGreatDoorB8l
import Derived.Test.YthiadenmljbdaaaGreatDoorB1l
import Derived.Deep.CutRange
namespace Go.Proofs.YthiadenmljbdaaaGreatDoor
section
open Go.RowKit
def nrm (l : List Nat) : List Nat := N.ofN (N.nv l)
def nrmS (s : Bool) (l : List Nat) : Bool := s && decide (0 < N.nv l)
mutual
def T.cp : T → T
 | .node k nm ns ng mg ks => .node k nm ns (nrmS ng mg) (nrm mg) (T.cps ks)
def T.cps : List T → List T
 | [] => []
 | t :: r => t.cp :: T.cps r
end
theorem T.cp_eq (t : T) : t.cp = .node t.k t.nm t.ns (nrmS t.ng t.mg) (nrm t.mg) (T.cps t.ks) := by cases t; rfl
theorem T.cps_len : ∀ (l : List T), (T.cps l).length = l.length
 | [] => rfl
 | t :: r => by simp [T.cps, T.cps_len r]
theorem T.cps_snoc : ∀ (l : List T) (t : T), T.cps (l ++ [t]) = T.cps l ++ [t.cp]
 | [], t => rfl
 | u :: r, t => by simp [T.cps, T.cps_snoc r t]
theorem T.New.form {w : World} {t : T} {lo hi : Nat} {v : Kc} (h : T.New w t lo hi v) : ∃ A1 c1 A2 c2 A3 c3, v = tc t.k t.nm A1 t.ns.length c1 t.ng A2 t.mg.length c2 A3 t.ks.length c3 := by
 cases t
 simp only [T.New] at h
 obtain ⟨A1, c1, A2, c2, A3, c3, m, hv, _⟩ := h
 exact ⟨A1, c1, A2, c2, A3, c3, hv⟩
theorem nb_row {w : World} {base : Nat} {e : TypeId} {size n cap g : Nat} {xs : List Value} (h : w.ownsRow base e size (.slice (some ⟨g, 0, none⟩) n cap) n xs) : Nb w base w.heap.size g ∧ n ≤ cap := by
 obtain ⟨_, ⟨h, _⟩ | ⟨g', cap', cur, h, hb, hg, hc, _⟩⟩ := h
 · cases h
 · injection h with h1 _ h2
   injection h1 with h1
   injection h1 with h1
   subst h1; subst h2
   exact ⟨⟨hb, (Array.getElem?_eq_some_iff.1 hg).1, cur, e, hg⟩, hc⟩
theorem clone_str (w : World) (R : Nat → Prop) (A : Option Addr) (c : Nat) (ns : List ByteArray) (h : StrL w R A c ns) (hb : ns.length ≤ 1048576) :
    Calls Tryz.prog 57 #[.slice A ns.length c] w fun e w' => ∃ A' c', e = .returned (.slice A' ns.length c') ∧ StrL w' (Nb w' w.heap.size w'.heap.size) A' c' ns ∧ Below w.heap.size w w' := by
  obtain ⟨hcap, hc⟩ := h
  have hnone : ns.length = 0 → ∀ (w' : World) (A' : Option Addr) (c' : Nat), StrL w' (Nb w' w.heap.size w'.heap.size) A' c' ns := fun h0 w' A' c' => ⟨by omega, fun hn => by omega⟩
  by_cases h0 : ns.length = 0
  ·
   rw [h0]
   cases A with
   | none =>
    refine (Tryz.slices_Clone_string_nil 0 c w).mono ?_
    rintro e w' ⟨rfl, rfl⟩
    exact ⟨none, 0, rfl, hnone h0 _ _ _, Below.refl _ _⟩
   | some a =>
    refine (Tryz.slices_Clone_string_zero a c w).mono ?_
    rintro e w' ⟨v', rfl, hown, hne, hbw⟩
    obtain ⟨_, ⟨h1, _⟩ | ⟨g', cap', cur, h1, _⟩⟩ := hown
    · exact absurd h1 hne
    · exact ⟨_, _, by rw [h1], hnone h0 _ _ _, hbw⟩
  ·
   obtain ⟨b, o, rfl, _, hcs⟩ := hc (by omega)
   refine (Tryz.slices_Clone_string b o ns.length c ns w (Nat.le_refl _) (by omega) (fun j hj => hcs j hj)).mono ?_
   rintro e w' ⟨v', rfl, hown, hne, hbw⟩
   have hown2 := hown
   obtain ⟨_, ⟨h1, _⟩ | ⟨g', cap', cur, h1, _⟩⟩ := hown2
   · exact absurd h1 hne
   · subst h1
     obtain ⟨hnb, hle⟩ := nb_row hown
     refine ⟨_, cap', rfl, ⟨hle, fun _ => ⟨g', 0, rfl, hnb, fun i hi => ?_⟩⟩, hbw⟩
     rw [Nat.zero_add, hown.cellAt i (by simpa using hi), List.take_length]
     simp [List.getD, hi]
theorem norm_l (w : World) (R : Nat → Prop) (ng : Bool) (A : Option Addr) (c : Nat) (mg : List Nat) (h : SlR w R A c mg) (hl : mg.length ≤ 1048576) :
    Calls Tryz.prog 58 #[.agg #[.bool ng, .slice A mg.length c]] w fun e w' => ∃ A' c', e = .returned (.agg #[.bool (nrmS ng mg), .slice A' (nrm mg).length c']) ∧ SlR w' (Nb w' w.heap.size w'.heap.size) A' c' (nrm mg) ∧ Below w.heap.size w w' := by
  have hIV : IV w (.agg #[.bool ng, .slice A mg.length c]) 1048576 (sgn ng (N.nv mg)) := ⟨ng, N.nv mg, ⟨_, rfl, A, _, c, mg, rfl, trivial, h.1, rfl, hl⟩, rfl⟩
  refine (norm_n hIV (by omega)).mono ?_
  rintro e w' ⟨u, rfl, ⟨sl, rfl, A', n', c', rfl, _, hs, _⟩, hbw, s', sl', he, hnw⟩
  rw [natAbs_sgn] at hs
  rw [sgn_neg] at he ⊢
  injection he with he
  injection he with he
  simp only [List.cons.injEq, and_true] at he
  obtain ⟨_, rfl⟩ := he
  have hn' : n' = (nrm mg).length := hs.len.symm
  subst hn'
  refine ⟨A', c', rfl, ⟨hs, fun hn ad e => ?_⟩, hbw⟩
  rcases hnw with h0 | ⟨g, n, c2, cs, h0, hb, _, _, hg, _⟩
  · injection h0 with h0
    rw [h0] at e; cases e
  · injection h0 with h0
    rw [h0] at e
    injection e with e
    subst e
    exact ⟨hb, (Array.getElem?_eq_some_iff.1 hg).1, cs, _, hg⟩
theorem Nb.up {w w' : World} {lo hi lo' hi' b : Nat} (h : Nb w lo hi b) (h1 : lo' ≤ lo) (h2 : hi ≤ hi') (he : w'.heap[b]? = w.heap[b]?) : Nb w' lo' hi' b := ⟨Nat.le_trans h1 h.1, Nat.lt_of_lt_of_le h.2.1 h2, h.2.2.same he⟩
theorem StrL.up {w w' : World} {lo hi lo' hi' : Nat} {A : Option Addr} {c : Nat} {ns : List ByteArray} (h : StrL w (Nb w lo hi) A c ns) (h1 : lo' ≤ lo) (h2 : hi ≤ hi') (he : ∀ b, lo ≤ b → b < hi → w'.heap[b]? = w.heap[b]?) : StrL w' (Nb w' lo' hi') A c ns :=
 h.keep (fun p _ hp hc => (World.cell?_of_block (a := p) (he _ hp.1 hp.2.1)).trans hc) (fun b hb => hb.up h1 h2 (he b hb.1 hb.2.1))
theorem SlR.up {w w' : World} {lo hi lo' hi' : Nat} {A : Option Addr} {c : Nat} {l : List Nat} (h : SlR w (Nb w lo hi) A c l) (h1 : lo' ≤ lo) (h2 : hi ≤ hi') (he : ∀ b, lo ≤ b → b < hi → w'.heap[b]? = w.heap[b]?) : SlR w' (Nb w' lo' hi') A c l :=
 h.keep (fun p _ hp hc => (World.cell?_of_block (a := p) (he _ hp.1 hp.2.1)).trans hc) (fun b hb => hb.up h1 h2 (he b hb.1 hb.2.1))
theorem news_step {wr w3 w4 : World} {v3 : Value} {m : Nat} {ks : List T} {rs : List Kc} {u : T} {c : Kc} {S S2 g' : Nat} (ho : OutK wr m v3 rs) (hn : ∀ g, v3.ownBlock = some g → T.News wr ks g m wr.heap.size rs) (hl : rs.length = ks.length) (hm : m ≤ wr.heap.size)
    (h1 : Below wr.heap.size wr w3) (hS : wr.heap.size ≤ S) (hu : T.New w3 u S S2 c) (hS2 : S2 ≤ w3.heap.size) (hg : w3.grownBy w4 v3.ownBlock) (hor : v3.ownBlock = some g' ∨ w3.heap.size ≤ g') : T.News w4 (ks ++ [u]) g' m w4.heap.size (rs ++ [c]) := by
  have hsz := hg.size
  have hle := hu.le
  rcases ho with ⟨rfl, rfl⟩ | ⟨g0, cap, cur, rfl, hb, hc, _⟩
  ·
   have hk : ks = [] := List.eq_nil_of_length_eq_zero (by rw [← hl]; rfl)
   subst hk
   have hg' : w3.heap.size ≤ g' := by
    rcases hor with h | h
    · cases h
    · exact h
   have hu' := T.New.keep (w' := w4) u S S2 c hu (fun b hb1 hb2 => hg.block b (by omega) (by simp [Value.ownBlock]))
   simp only [List.nil_append, T.News]
   exact ⟨c, [], S, S2, rfl, by omega, hle, .inr (by omega), hu', rfl, by omega⟩
  ·
   have hlt : g0 < wr.heap.size := (Array.getElem?_eq_some_iff.1 hc).1
   have hsz1 := h1.size
   have hnn := hn g0 rfl
   have hne : ∀ b, b ≠ g0 → some b ≠ (Value.slice (some ⟨g0, 0, none⟩) rs.length cap).ownBlock := fun b hb e => hb (by simpa [Value.ownBlock] using e)
   have hk := T.News.keep (w' := w4) ks g0 m wr.heap.size rs hnn (fun b hb1 hb2 hb3 => (hg.block b (by omega) (hne b hb3)).trans (h1.block b hb2))
   have hu' := T.New.keep (w' := w4) u S S2 c hu (fun b hb1 hb2 => hg.block b (by omega) (hne b (by omega)))
   have hk2 := T.News.hi ks g0 m _ S rs hk hS
   refine T.News.hi _ g' m S2 w4.heap.size _ ?_ (by omega)
   rcases hor with h | h
   · have e : g0 = g' := by simpa [Value.ownBlock] using h
     subst e
     exact T.News.snoc ks g0 m S S2 rs u c hk2 hu' (.inl (by omega))
   · exact T.News.snoc ks g' m S S2 rs u c (T.News.apart ks g0 g' m S rs hk2 (by omega)) hu' (.inr (by omega))
theorem kid_cells {w : World} {b : Nat} {r : Kc} (h : Blk w b 28 #[r.1, r.2.1, r.2.2.1, r.2.2.2.1, r.2.2.2.2.1, r.2.2.2.2.2]) : ∀ j u, (kcl r)[j]? = some u → w.cell? ⟨b, j, none⟩ = some u := by
 intro j u hu
 rw [h.cell j, ← hu]
 simp [kcl]
theorem tc_one (k : Int) (nm : ByteArray) (A1 : Option Addr) (n1 c1 : Nat) (ng : Bool) (A2 : Option Addr) (n2 c2 : Nat) (A3 : Option Addr) (n3 c3 : Nat) : ∀ u ∈ kcl (tc k nm A1 n1 c1 ng A2 n2 c2 A3 n3 c3), u.oneCell' = true := by
 intro u hu
 simp only [kcl, List.mem_cons, List.not_mem_nil, or_false] at hu
 rcases hu with rfl | rfl | rfl | rfl | rfl | rfl
 all_goals rfl
theorem tree_info : ∃ i0, Tryz.prog.info? 28 = some i0 ∧ i0.zero = some (.agg #[.int .i64 0, .string ⟨#[]⟩, .slice none 0 0, .bool false, .slice none 0 0, .slice none 0 0]) ∧ i0.size = 6 ∧ i0.bytes = 104 := by
 have h := info_tree
 cases hi : Tryz.prog.info? 28 with
 | none => rw [hi] at h; cases h
 | some i =>
  rw [hi] at h
  simp only [Option.map_some, Option.some.injEq, Prod.mk.injEq] at h
  exact ⟨i, rfl, h.1, h.2.1, h.2.2⟩
theorem sizeTree : (Tryz.prog.info? 28).map (·.size) = some 6 := by kernel_rfl
theorem OutK.base_le {w : World} {base : Nat} {v : Value} {rs : List Kc} (h : OutK w base v rs) : ∀ k, v.ownBlock = some k → base ≤ k := by
 rcases h with ⟨rfl, _⟩ | ⟨g, cap, cur, rfl, h1, _⟩
 · intro k e; cases e
 · intro k e
   obtain rfl : g = k := by simpa [Value.ownBlock] using e
   exact h1
theorem OutK.far {w w' : World} {base : Nat} {v : Value} {rs : List Kc} (h : OutK w base v rs) (_ : base ≤ w.heap.size) (he : ∀ b, base ≤ b → b < w.heap.size → w'.heap[b]? = w.heap[b]?) : OutK w' base v rs := by
 rcases h with h | ⟨g, cap, cur, rfl, h1, h2, h3⟩
 · exact .inl h
 · exact .inr ⟨g, cap, cur, rfl, h1, (he g h1 (Array.getElem?_eq_some_iff.1 h2).1).trans h2, h3⟩
theorem New.mk {w : World} {k : Int} {nm : ByteArray} {ns : List ByteArray} {ng : Bool} {mg : List Nat} {ks : List T} {rs : List Kc} {lo m : Nat} {A1 : Option Addr} {c1 : Nat} {A2 : Option Addr} {c2 : Nat} {A3 : Option Addr} {c3 : Nat}
    (h1 : lo ≤ m) (h2 : m ≤ w.heap.size) (hs : StrL w (Nb w lo m) A1 c1 ns) (hm : SlR w (Nb w lo m) A2 c2 mg) (ho : OutK w m (.slice A3 rs.length c3) rs) (hl : rs.length = ks.length) (hn : ∀ g, (Value.slice A3 rs.length c3).ownBlock = some g → T.News w ks g m w.heap.size rs) :
    T.New w (.node k nm ns ng mg ks) lo w.heap.size (tc k nm A1 ns.length c1 ng A2 mg.length c2 A3 rs.length c3) := by
  simp only [T.New]
  refine ⟨A1, c1, A2, c2, A3, c3, m, by rw [hl], h1, h2, hs, hm, ?_⟩
  rcases ho.row with ⟨h, rfl⟩ | ⟨g, c, h, hb, hlt, hrow⟩
  · injection h with h3 _ h4
    exact .inl ⟨h3, h4, List.eq_nil_of_length_eq_zero (by rw [← hl]; rfl)⟩
  · injection h with h3 _ h4
    subst h3; subst h4
    exact .inr ⟨g, rs, rfl, hb, hlt, by rw [← hl]; exact hrow, hn g rfl⟩
set_option maxRecDepth 100000 in
set_option maxHeartbeats 6400000 in
theorem copy_t : ∀ (N : Nat) (t : T) (w : World) (R : Nat → Prop) (v : Value), t.bulk ≤ N → N ≤ 1048576 → T.In w R t v →
    Calls Tryz.prog 27 #[v] w fun e w' => ∃ c, e = .returned (kv c) ∧ T.New w' t.cp w.heap.size w'.heap.size c ∧ Below w.heap.size w w'
  | 0, t, _, _, _, hN, _, _ => by have := T.bulk_pos t; omega
  | N + 1, t, w, R, v, hN, hN2, h => by
   have ih := copy_t N
   obtain ⟨A1, c1, A2, c2, A3, c3, rfl, hnames, hmag, hc3, hkids⟩ := h.open
   obtain ⟨n, hn⟩ : ∃ n, t.ks.length = n := ⟨_, rfl⟩
   obtain ⟨hl1, hl2, hl3, hl4, hlen⟩ := T.len_le hN
   rw [hn] at hkids hc3 hlen ⊢
   have HN := Lib.hid hn
   have HK := Lib.hid hkids
   have HB := Lib.hid hN
   have HNM := Lib.hid hnames
   have HMG := Lib.hid hmag
   clear hn hkids hN h hnames hmag
   go_enter Tryz.func27, Tryz.ntmps27
   go_upto_region 1 with (fail)
   obtain ⟨W1, hW1, pt, hb1⟩ := made_blk w #[.int .i64 t.k, .string t.nm, .slice A1 t.ns.length c1, .bool t.ng, .slice A2 t.mg.length c2, .slice A3 n c3] 28
   have hsz1 : W1.heap.size = w.heap.size + 1 := by rw [hW1]; simp
   obtain ⟨Bt, hBt⟩ : ∃ b, b = w.heap.size := ⟨_, rfl⟩
   rw [← hW1, ← hBt]
   rw [← hBt] at pt hsz1
   obtain ⟨W2, hW2, pr, hb2⟩ := made_blk W1 #[.int .i64 0, .string ⟨#[]⟩, .slice none 0 0, .bool false, .slice none 0 0, .slice none 0 0] 28
   rw [← hW2]
   rw [hsz1] at pr
   have pt := pt.below hb2
   have hb1 := below_on hb1 hb2
   have hsz2 : W2.heap.size = Bt + 2 := by rw [hW2]; simp [hsz1]
   have HBt := Lib.hid hBt
   clear hW1 hW2 hb2 hBt hsz1
   obtain ⟨x0, x1, x2, x3, x4, x5⟩ := pt.six
   have HST := Lib.hid (HNM.out.below hb1)
   have HS2 := Lib.hid hsz2
   clear hsz2
   go_upto_region 2 with (go_at_call 57; refine (clone_str _ R _ _ _ HST.out (by omega)).mono ?_; rintro e w3 ⟨E1, d1, rfl, hs1, hb3⟩; have pt3 := pt.below hb3; have fr3 := pt3.free 2; obtain ⟨z0, z1, z2, z3, z4, z5⟩ := pt3.six)
   have pr3 := pr.below hb3
   have hb4 := below_on hb1 hb3
   have hge3 : Bt + 2 ≤ w3.heap.size := by rw [← HS2.out]; exact hb3.size
   clear z0 z1 z2 z3 z4 z5 fr3 x0 x1 x2 x3 x4 x5
   obtain ⟨W4, hW4⟩ : ∃ W, W = w3.setCell ⟨Bt, 2, none⟩ (.slice E1 t.ns.length d1) := ⟨_, rfl⟩
   have pt4 : Blk W4 Bt 28 #[.int .i64 t.k, .string t.nm, .slice E1 t.ns.length d1, .bool t.ng, .slice A2 t.mg.length c2, .slice A3 n c3] := by rw [hW4]; exact pt3.put 2 _
   have pr4 : Blk W4 (Bt + 1) 28 #[.int .i64 0, .string ⟨#[]⟩, .slice none 0 0, .bool false, .slice none 0 0, .slice none 0 0] := by rw [hW4]; exact pr3.far (by omega) 2 _
   have hb5 : Below w.heap.size w W4 := by rw [hW4]; exact hb4.setCell (by rw [← HBt.out]; exact Nat.le_refl _) _
   have hsz4 : W4.heap.size = w3.heap.size := by rw [hW4]; simp
   have hs4 : StrL W4 (Nb W4 (Bt + 2) W4.heap.size) E1 d1 t.ns := hs1.up (by rw [HS2.out]; exact Nat.le_refl _) (by omega) (fun b hb1 _ => by rw [hW4]; exact Below.heap_setCell _ _ _ _ (by have := HS2.out; show b ≠ Bt; omega))
   rw [← hW4]
   clear hW4 pt3 pr3 hb4 hs1 hb3
   rw [hsz4] at hs4
   obtain ⟨x0, x1, x2, x3, x4, x5⟩ := pt4.six
   have HST4 := Lib.hid hs4
   have HS4 := Lib.hid hsz4
   have HM4 := Lib.hid (HMG.out.below hb5)
   clear hs4 hsz4 pt pr hb1
   go_upto_region 3 with (go_at_call 58; refine (norm_l _ R _ _ _ _ HM4.out (by omega)).mono ?_; rintro e w5 ⟨E2, d2, rfl, hs1, hb3⟩; have pt3 := pt4.below hb3; have fr3 := pt3.free 3; have fr4 := pt3.free 4; obtain ⟨z0, z1, z2, z3, z4, z5⟩ := pt3.six)
   have pr3 := pr4.below hb3
   have hb6 := below_on hb5 hb3
   have hge5 : w3.heap.size ≤ w5.heap.size := by have := hb3.size; have := HS4.out; omega
   clear z0 z1 z2 z3 z4 z5 fr3 fr4 x0 x1 x2 x3 x4 x5
   obtain ⟨W6, hW6⟩ : ∃ W, W = (w5.setCell ⟨Bt, 3, none⟩ (.bool (nrmS t.ng t.mg))).setCell ⟨Bt, 4, none⟩ (.slice E2 (nrm t.mg).length d2) := ⟨_, rfl⟩
   have pt6 : Blk W6 Bt 28 #[.int .i64 t.k, .string t.nm, .slice E1 t.ns.length d1, .bool (nrmS t.ng t.mg), .slice E2 (nrm t.mg).length d2, .slice A3 n c3] := by rw [hW6]; exact (pt3.put 3 _).put 4 _
   have pr6 : Blk W6 (Bt + 1) 28 #[.int .i64 0, .string ⟨#[]⟩, .slice none 0 0, .bool false, .slice none 0 0, .slice none 0 0] := by rw [hW6]; exact (pr3.far (by omega) 3 _).far (by omega) 4 _
   have hb7 : Below w.heap.size w W6 := by rw [hW6]; exact (hb6.setCell (by rw [← HBt.out]; exact Nat.le_refl _) _).setCell (by rw [← HBt.out]; exact Nat.le_refl _) _
   have hsz6 : W6.heap.size = w5.heap.size := by rw [hW6]; simp
   have hfar6 : ∀ b, b ≠ Bt → W6.heap[b]? = w5.heap[b]? := fun b hb => by rw [hW6]; exact (Below.heap_setCell _ _ _ _ hb).trans (Below.heap_setCell _ _ _ _ hb)
   have hs6 : StrL W6 (Nb W6 (Bt + 2) W6.heap.size) E1 d1 t.ns := HST4.out.up (Nat.le_refl _) (by omega) (fun b hb1 hb2 => (hfar6 b (by omega)).trans (hb3.block b (by rw [HS4.out]; exact hb2)))
   have hm6 : SlR W6 (Nb W6 (Bt + 2) W6.heap.size) E2 d2 (nrm t.mg) := hs1.up (by rw [HS4.out]; exact hge3) (by omega) (fun b hb1 _ => hfar6 b (by have := HS4.out; omega))
   rw [← hW6]
   clear hW6 pt3 pr3 hb6 hs1 hb3 hfar6 pt4 pr4 hb5 HST4 HM4
   have hge6 : Bt + 2 ≤ W6.heap.size := by omega
   have HS6 := Lib.hid hs6
   have HM6 := Lib.hid hm6
   have hmb6 : Below W6.heap.size W6 W6 := Below.refl _ _
   clear hs6 hm6 hsz6 hge3 hge5 HS4 HS2
   obtain ⟨x0, x1, x2, x3, x4, x5⟩ := pt6.six
   obtain ⟨i0, hinfo, iz0, iz1, iz2⟩ := tree_info
   go_wp2_with fail
   go_loopg [3, 17] (n + 1) (fun gk v3 v17 wr => ∃ (i : Nat) (rs : List Kc), gk + i = n + 1 ∧ i ≤ n ∧ v17 = .int .i64 (i : Nat) ∧ OutK wr W6.heap.size v3 rs ∧ rs.length = i ∧ (∀ g, v3.ownBlock = some g → T.News wr (T.cps (t.ks.take i)) g W6.heap.size wr.heap.size rs) ∧ Below W6.heap.size W6 wr)
   case atStart => exact ⟨0, [], by omega, Nat.zero_le _, rfl, OutK.nil _ _, rfl, (fun g e => by cases e), Below.refl _ _⟩
   case round =>
    clear x0 x1 x2 x3 x4 x5
    obtain ⟨i, rs, hi, hin, rfl, hO, hrl, hnw, hS⟩ := hrel
    by_cases hlt : i < n
    ·
     have hi3 : decide (i < n) = true := decide_eq_true hlt
     have hsn := T.cps_snoc (t.ks.take i) (t.ks.getD i t0)
     rw [← take_snoc _ t0 _ (by rw [HN.out]; exact hlt)] at hsn
     have hcl : rs.length = (T.cps (t.ks.take i)).length := by rw [T.cps_len, List.length_take, HN.out, hrl]; omega
     have HCL := Lib.hid hcl
     have HSN := Lib.hid hsn
     have HRL := Lib.hid hrl
     have HO := Lib.hid hO
     have HNW := Lib.hid hnw
     have hlen2 : rs.length < 1048576 := by omega
     clear hcl hsn hrl hO hnw
     obtain ⟨b, o, rfl, hk⟩ := HK.out (by omega)
     have hkd := hk i hlt
     obtain ⟨u, hu⟩ : ∃ u, t.ks.getD i t0 = u := ⟨_, rfl⟩
     rw [hu] at hkd
     have hub : u.bulk ≤ N := by rw [← hu]; exact T.kid_bulk HB.out (by rw [HN.out]; exact hlt)
     have HU := Lib.hid hu
     clear hk hu
     obtain ⟨B1, e1, B2, e2, B3, e3, h6, hkin⟩ := hkd.below (below_on hb7 hS)
     have hal := below_alloc1 wr (.cells #[.int .i64 u.k, .string u.nm, .slice B1 u.ns.length e1, .bool u.ng, .slice B2 u.mg.length e2, .slice B3 u.ks.length e3] 28)
     have HI := Lib.hid (hkin.below hal)
     have HAL := Lib.hid hal
     clear hkin hal hkd
     obtain ⟨y0, y1, y2, y3, y4, y5⟩ := h6
     have hi0 : (0 : Int) ≤ i := by omega
     have hi1 : (i : Int) < n := by omega
     have hS3 := hS.size
     go_wp2_with (first
      | (go_at_call 27; refine (ih u _ R _ hub (by omega) HI.out).mono ?_; rintro e w2 ⟨c, rfl, hNew, hb2⟩; obtain ⟨q, hq⟩ : ∃ q, T.cp u = q := ⟨_, rfl⟩; rw [hq] at hNew; have HQ := Lib.hid hq; clear hq; have HNEW := Lib.hid hNew; obtain ⟨F1, f1, F2, f2, F3, f3, rfl⟩ := hNew.form; clear hNew)
      | (at_builtin; have hb8 := below_on (below_on HAL.out hb2) (below_alloc1 w2 (.cells #[.int .i64 q.k, .string q.nm, .slice F1 q.ns.length f1, .bool q.ng, .slice F2 q.mg.length f2, .slice F3 q.ks.length f3] 28)); refine wpList_append_kid _ rfl (.tmp 21) (.tmp 24) 26 rfl W6.heap.size i0 Tryz.underlying26 hinfo iz0 iz1 iz2 _ rs rfl (HO.out.below hb8) _ 1 (tc q.k q.nm F1 q.ns.length f1 q.ng F2 q.mg.length f2 F3 q.ks.length f3) rfl (kid_cells (Blk.new _ _ _)) (tc_one _ _ _ _ _ _ _ _ _ _ _ _) hlen2 (Nat.le_trans hS3 hb8.size) ?_; intro g' cap w4 ho4 hg4 hor))
     have hb9 : Below W6.heap.size W6 w4 := (below_on hS hb8).grown hg4 (Nat.le_trans hS3 hb8.size) (fun k hk => HO.out.base_le k hk)
     have HO4 := Lib.hid ho4
     have HNN : Hid (T.News w4 (T.cps (t.ks.take (i + 1))) g' W6.heap.size w4.heap.size (rs ++ [tc q.k q.nm F1 q.ns.length f1 q.ng F2 q.mg.length f2 F3 q.ks.length f3])) := Lib.hid (by
      rw [HSN.out, HU.out, HQ.out]
      exact news_step HO.out HNW.out HCL.out hS3 hb8 HAL.out.size (HNEW.out.below (Nat.le_refl _) (below_alloc1 _ _)) (below_alloc1 w2 _).size hg4 hor)
     clear ho4 hg4 hor hb8 y0 y1 y2 y3 y4 y5
     go_wp2_with fail
     go_roundg (n - i)
     case measure => omega
     case rel => exact ⟨i + 1, _, by omega, by omega, by go_num, HO4.out, by simp [HRL.out], (fun g e => by have e : some g' = some g := e; injection e with e; subst e; exact HNN.out), hb9⟩
    ·
     have hi3 : decide (i < n) = false := decide_eq_false hlt
     obtain rfl : i = n := by omega
     have htk : t.ks.take i = t.ks := by rw [← HN.out, List.take_length]
     rw [htk] at hnw
     obtain ⟨E3, d3, rfl⟩ := hO.slice
     have hpt := pt6.below hS
     have hpr := pr6.below hS
     have hge9 : W6.heap.size ≤ wr.heap.size := hS.size
     have fr5 := hpt.free 5
     obtain ⟨x0, x1, x2, x3, x4, x5⟩ := hpt.six
     have HO := Lib.hid hO
     have HNW := Lib.hid hnw
     have HRL := Lib.hid hrl
     clear hO hnw htk hrl
     go_upto_region 10 with (fail)
     clear x0 x1 x2 x3 x4 x5 fr5
     obtain ⟨W7, hW7⟩ : ∃ W, W = wr.setCell ⟨Bt, 5, none⟩ (.slice E3 rs.length d3) := ⟨_, rfl⟩
     have pt7 : Blk W7 Bt 28 #[.int .i64 t.k, .string t.nm, .slice E1 t.ns.length d1, .bool (nrmS t.ng t.mg), .slice E2 (nrm t.mg).length d2, .slice E3 rs.length d3] := by rw [hW7]; exact hpt.put 5 _
     have pr7 : Blk W7 (Bt + 1) 28 #[.int .i64 0, .string ⟨#[]⟩, .slice none 0 0, .bool false, .slice none 0 0, .slice none 0 0] := by rw [hW7]; exact hpr.far (by omega) 5 _
     have hfar7 : ∀ b, b ≠ Bt → W7.heap[b]? = wr.heap[b]? := fun b hb => by rw [hW7]; exact Below.heap_setCell _ _ _ _ hb
     have hsz7 : W7.heap.size = wr.heap.size := by rw [hW7]; simp
     have hb10 : Below w.heap.size w W7 := by rw [hW7]; exact (below_on hb7 hS).setCell (by rw [← HBt.out]; exact Nat.le_refl _) _
     rw [← hW7]
     clear hW7 hpt hpr
     obtain ⟨x0, x1, x2, x3, x4, x5⟩ := pt7.six
     have fr0 := pr7.free 0
     have fr1 := pr7.free 1
     have fr2 := pr7.free 2
     have fr3 := pr7.free 3
     have fr4 := pr7.free 4
     have fr5 := pr7.free 5
     obtain ⟨y0, y1, y2, y3, y4, y5⟩ := pr7.six
     go_wp2_with fail
     refine bodyPost_ret (results_cell_row rfl _ _ _ _ _ _ _ rfl ((((((pr7.put 0 _).put 1 _).put 2 _).put 3 _).put 4 _).put 5 _) Tryz.underlying28 rfl sizeTree) rfl ?_
     refine ⟨tc t.k t.nm E1 t.ns.length d1 (nrmS t.ng t.mg) E2 (nrm t.mg).length d2 E3 rs.length d3, rfl, ?_, ?_⟩
     ·
      have hfar8 : ∀ b, b ≠ Bt → b ≠ Bt + 1 → (((((((W7.setCell ⟨Bt + 1, 0, none⟩ (.int .i64 t.k)).setCell ⟨Bt + 1, 1, none⟩ (.string t.nm)).setCell ⟨Bt + 1, 2, none⟩ (.slice E1 t.ns.length d1)).setCell ⟨Bt + 1, 3, none⟩ (.bool (nrmS t.ng t.mg))).setCell ⟨Bt + 1, 4, none⟩ (.slice E2 (nrm t.mg).length d2)).setCell ⟨Bt + 1, 5, none⟩ (.slice E3 rs.length d3)).heap[b]? = wr.heap[b]?) := fun b h1 h2 =>
       (((((Below.heap_setCell _ ⟨Bt + 1, 5, none⟩ _ _ h2).trans (Below.heap_setCell _ ⟨Bt + 1, 4, none⟩ _ _ h2)).trans (Below.heap_setCell _ ⟨Bt + 1, 3, none⟩ _ _ h2)).trans (Below.heap_setCell _ ⟨Bt + 1, 2, none⟩ _ _ h2)).trans (Below.heap_setCell _ ⟨Bt + 1, 1, none⟩ _ _ h2)).trans ((Below.heap_setCell _ ⟨Bt + 1, 0, none⟩ _ _ h2).trans (hfar7 b h1))
      rw [T.cp_eq]
      have hks : rs.length = (T.cps t.ks).length := by rw [T.cps_len, HN.out, HRL.out]
      refine New.mk (m := W6.heap.size) (by have := HBt.out; omega) (by simp only [World.size_setCell]; omega) ?_ ?_ ?_ hks ?_
      · exact HS6.out.up (by have := HBt.out; omega) (Nat.le_refl _) (fun b h1 h2 => (hfar8 b (by omega) (by omega)).trans (hS.block b h2))
      · exact HM6.out.up (by have := HBt.out; omega) (Nat.le_refl _) (fun b h1 h2 => (hfar8 b (by omega) (by omega)).trans (hS.block b h2))
      · exact HO.out.far hge9 (fun b h1 _ => hfar8 b (by omega) (by omega))
      · intro g e
        have := T.News.keep _ g _ _ rs (HNW.out g e) (fun b h1 h2 _ => hfar8 b (by omega) (by omega))
        exact T.News.hi _ g _ _ _ rs this (by simp only [World.size_setCell]; omega)
     · have hB : w.heap.size ≤ Bt + 1 := by have := HBt.out; omega
       exact (((((hb10.setCell hB _).setCell hB _).setCell hB _).setCell hB _).setCell hB _).setCell hB _
end
end Go.Proofs.YthiadenmljbdaaaGreatDoor

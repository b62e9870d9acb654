/-
  store.Store: Drop, Put: contracts.
-/
import Derived.Test.YtmncamnlmpajbaaSStore
import Derived.Deep.CutRange
namespace Go.Proofs.Ytmncamnlmpajbaa
open Go.RowKit Go.Maps Go.WideMaps

/-- w' is w but for blocks P and M, and what is new. -/
structure Tur (w w' : World) (P M : Nat) : Prop where
  os : w'.os = w.os
  tape : w'.tape = w.tape
  output : w'.output = w.output
  size : w.heap.size ≤ w'.heap.size
  block : ∀ k, k < w.heap.size → k ≠ P → k ≠ M → w'.heap[k]? = w.heap[k]?
theorem Tur.of_below {w w' : World} {P M : Nat} (h : Below w.heap.size w w') : Tur w w' P M := ⟨h.os, h.tape, h.output, h.size, fun k hk _ _ => h.block k hk⟩
theorem Tur.trans {a b c : World} {P M : Nat} (h : Tur a b P M) (k : Tur b c P M) : Tur a c P M :=
  ⟨k.os.trans h.os, k.tape.trans h.tape, k.output.trans h.output, Nat.le_trans h.size k.size, fun i hi h1 h2 => (k.block i (Nat.lt_of_lt_of_le hi h.size) h1 h2).trans (h.block i hi h1 h2)⟩
theorem Tur.below {a b c : World} {P M : Nat} (h : Tur a b P M) (k : Below b.heap.size b c) : Tur a c P M := h.trans (Tur.of_below k)
theorem Tur.grown {a b c : World} {P M : Nat} (h : Tur a b P M) (g : b.grownBy c (some M)) : Tur a c P M :=
  h.trans ⟨g.os, g.tape, g.output, g.size, fun i hi _ h2 => g.block i hi (fun e => h2 (by injection e))⟩
theorem Tur.setCell {a b : World} {P M : Nat} (h : Tur a b P M) (i : Nat) (u : Value) : Tur a (b.setCell ⟨P, i, none⟩ u) P M :=
  h.trans ⟨rfl, rfl, rfl, by simp, fun k _ h1 _ => Below.heap_setCell _ _ _ _ h1⟩
theorem Tur.In {w w' : World} {P M : Nat} {R : Nat → Prop} {t : T} {v : Value} (h : T.In w R t v) (hT : Tur w w' P M) (h1 : ¬ R P) (h2 : ¬ R M) : T.In w' R t v :=
  T.In.keep (fun p _ hp hc => (World.cell?_of_block (a := p) (hT.block _ (World.block_lt_of_cell? w p hc) (fun e => h1 (e ▸ hp)) (fun e => h2 (e ▸ hp)))).trans hc) (fun _ h => h) t v h
/-- What a look-up gives, there or not. -/
theorem Reps.look {w : World} {R : Nat → Prop} {D : DataW Value} {L : Kl} (h : Reps w R D L) (nm : ByteArray) : ∃ k0 nm0 A1 n1 c1 ng A2 n2 c2 A3 n3 c3 n0, D.atKey (.string nm.data.toList) (.held kw0) = .held (kw (tc k0 nm0 A1 n1 c1 ng A2 n2 c2 A3 n3 c3) n0) ∧ has D (.string nm.data.toList) = (lget nm L).isSome ∧ total L = n0 + total (ldel nm L) ∧ n0 ≤ 3001 := by
  cases hg : lget nm L with
  | none =>
    obtain ⟨h1, h2⟩ := h.away hg
    exact ⟨0, ⟨#[]⟩, none, 0, 0, false, none, 0, 0, none, 0, 0, 0, h1, h2, by rw [ldel_away hg]; omega, by omega⟩
  | some t =>
    obtain ⟨c, h1, h2, hin⟩ := h.here hg
    obtain ⟨A1, c1, A2, c2, A3, c3, hform, _⟩ := hin.form
    obtain ⟨a0, a1, a2, a3, a4, a5⟩ := c
    have hform : (Value.agg #[a0, a1, a2, a3, a4, a5]) = tv t.k t.nm A1 t.ns.length c1 t.ng A2 t.mg.length c2 A3 t.ks.length c3 := hform
    injection hform with hform
    injection hform with hform
    simp only [List.cons.injEq, and_true] at hform
    obtain ⟨rfl, rfl, rfl, rfl, rfl, rfl⟩ := hform
    exact ⟨_, _, _, _, _, _, _, _, _, _, _, _, sz t, h1, h2, by rw [total_perm (ldel_here h.1 hg), total_cons], Nat.min_le_right _ _⟩
mutual
theorem T.cp_size : ∀ (t : T), t.cp.size = t.size
  | .node k nm ns ng mg ks => by simp only [T.cp, T.size]; rw [T.cps_size ks]
theorem T.cps_size : ∀ (l : List T), T.sizes (T.cps l) = T.sizes l
  | [] => rfl
  | t :: r => by simp only [T.cps, T.sizes]; rw [T.cp_size t, T.cps_size r]
end
theorem T.cp_sz (t : T) : sz t.cp = sz t := by unfold sz; rw [T.cp_size]
mutual
theorem T.In.cp_bulk {w : World} {R : Nat → Prop} : ∀ {t : T} {v : Value}, T.In w R t v → t.cp.bulk ≤ t.bulk
  | .node k nm ns ng mg ks, v, h => by
    simp only [T.In] at h
    obtain ⟨A1, c1, A2, c2, A3, c3, _, _, h2, _, h4⟩ := h
    have hm : (nrm mg).length ≤ mg.length := N.ofN_nv_length h2.1.lim
    have hk : T.bulks (T.cps ks) ≤ T.bulks ks := by
      by_cases h0 : 0 < ks.length
      · obtain ⟨b, o, _, _, hi⟩ := h4 h0
        exact T.Ins.cps_bulk hi
      · have : ks = [] := List.eq_nil_of_length_eq_zero (by omega)
        subst this
        simp [T.cps]
    simp only [T.cp, T.bulk]
    omega
theorem T.Ins.cps_bulk {w : World} {R : Nat → Prop} {b : Nat} : ∀ {o : Nat} {l : List T}, T.Ins w R b o l → T.bulks (T.cps l) ≤ T.bulks l
  | _, [], _ => by simp [T.cps]
  | o, t :: r, h => by
    simp only [T.Ins] at h
    obtain ⟨⟨v0, v1, v2, v3, v4, v5, _, ht⟩, hr⟩ := h
    have h1 := T.In.cp_bulk ht
    have h2 := T.Ins.cps_bulk hr
    simp only [T.cps, T.bulks]
    omega
end
/-- Too much: a formula that finds no room. -/
def big (nm : ByteArray) (t : T) (L : Kl) : Bool := (!(lget nm L).isSome && decide (40 ≤ L.length)) || decide (3000 < sz t + total (ldel nm L))
theorem size_sz {w : World} {R : Nat → Prop} {v : Value} {t : T} (hN : t.bulk ≤ 1048576) (h : T.In w R t v) : Calls Try.prog 36 #[v] w fun e w' => e = .returned (.int .i64 (sz t : Nat)) ∧ Below w.heap.size w w' :=
  size_t 1048576 t w R v hN (by omega) h
theorem Blk.k7 {w : World} {b : Nat} {t : TypeId} {a0 a1 a2 a3 a4 a5 a6 : Value} (h : Blk w b t #[a0, a1, a2, a3, a4, a5, a6]) : w.cell? ⟨b, 6, none⟩ = some a6 := h.cell 6
theorem Blk.two {w : World} {b : Nat} {t : TypeId} {a0 a1 : Value} (h : Blk w b t #[a0, a1]) : w.cell? ⟨b, 0, none⟩ = some a0 ∧ w.cell? ⟨b, 1, none⟩ = some a1 := ⟨h.cell 0, h.cell 1⟩
/-- 'm[k] = v', in whatever world the map's block stands. -/
theorem upd_fun {Pr : Program} {t k e : TypeId} {w : World} {b n : Nat} {D : DataW Value} (h : w.ownsMap Pr k RV b n D) (K : Keyed Pr k) (ht : Pr.underlying t = some (.map k e)) (hn : n < maxLen) {key : Value} {kl : Lit} (hkey : keyOf Pr k key = some kl) (val : Value) :
    ∃ (o : Obj) (g : World → World), w.heap[b]? = some o ∧ (∀ w' : World, w'.heap[b]? = some o → (Instr.mapUpdate t (.map (some b)) key val).run Pr w' = .ok () (g w')) ∧ ∀ w' : World, w'.heap[b]? = some o → (g w').ownsMap Pr k RV b (n + 1) (D.put kl (.held val)) ∧ w'.mapTurned (g w') b := by
  obtain ⟨es, clock, hb, F, hs, hD⟩ := h
  have key : ∀ w' : World, ∃ w'', w'.heap[b]? = some (.map es clock) → (Instr.mapUpdate t (.map (some b)) key val).run Pr w' = .ok () w'' ∧ w''.ownsMap Pr k RV b (n + 1) (D.put kl (.held val)) ∧ w'.mapTurned w'' b := fun w' => by
    by_cases hw : w'.heap[b]? = some (.map es clock)
    · obtain ⟨w'', h1, h2, h3⟩ := World.ownsMap.store (w := w') ⟨es, clock, hw, F, hs, hD⟩ K ht hn hkey (show RV val = some (.held val, []) from rfl)
      exact ⟨w'', fun _ => ⟨h1, h2, h3⟩⟩
    · exact ⟨w', fun h => absurd h hw⟩
  exact ⟨_, fun w' => Classical.choose (key w'), hb, fun w' hw => (Classical.choose_spec (key w') hw).1, fun w' hw => (Classical.choose_spec (key w') hw).2⟩
/-- Behind the map's store. -/
def Mid (w wd : World) (P M : Nat) (R : Nat → Prop) (tl _n0 s Bk ll : Nat) (vk : Array Value) (D : DataW Value) (nm : ByteArray) (u : T) : Prop :=
  ∃ c, wd.ownsMap Try.prog 9 RV M (ll + 1) (D.put (.string nm.data.toList) (.held (kw c s))) ∧ T.In wd R u (kv c) ∧ Blk wd P 61 #[.map (some M), .int .i64 (tl : Nat)] ∧ Blk wd Bk 70 vk ∧ Tur w wd P M
theorem mid_done {w wc w0 w7 w8 : World} {P M : Nat} {R : Nat → Prop} {tl n0 s Bk ll lo hi : Nat} {vk : Array Value} {D : DataW Value} {nm : ByteArray} {u : T} {c : Kc} (hne : P ≠ M) (hbm : Bk ≠ M) (hb : Below w.heap.size w wc) (hR : ∀ b, lo ≤ b → b < hi → R b) (hp : Blk wc P 61 #[.map (some M), .int .i64 (tl : Nat)]) (hk : Blk wc Bk 70 vk) (h1 : ¬ R P) (h2 : ¬ R M)
    (hb7 : Below wc.heap.size wc w0) (hN : T.New w0 u lo hi c) (hd : w7.heap = w0.heap ∧ w7.os = w0.os ∧ w7.tape = w0.tape ∧ w7.output = w0.output) (ho : w8.ownsMap Try.prog 9 RV M (ll + 1) (D.put (.string nm.data.toList) (.held (kw c s)))) (ht : w7.mapTurned w8 M) : Mid w w8 P M R tl n0 s Bk ll vk D nm u := by
  have hg := ht.grown
  have hT : Tur wc w7 P M := (Tur.of_below hb7).trans ⟨hd.2.1, hd.2.2.1, hd.2.2.2, by rw [hd.1]; exact Nat.le_refl _, fun k _ _ _ => by rw [hd.1]⟩
  have hT8 := hT.grown hg
  have hp7 : Blk w7 P _ _ := (show w7.heap[P]? = w0.heap[P]? by rw [hd.1]).trans (hp.below hb7)
  have hk7 : Blk w7 Bk _ _ := (show w7.heap[Bk]? = w0.heap[Bk]? by rw [hd.1]).trans (hk.below hb7)
  refine ⟨c, ho, ?_, (hg.block P hp7.lt (fun e => hne (by injection e))).trans hp7, (hg.block Bk hk7.lt (fun e => hbm (by injection e))).trans hk7, (Tur.of_below hb).trans hT8⟩
  have h0 := T.New.In u lo hi c R hN hR
  have h7 : T.In w7 R u (kv c) := T.In.fr h0 (fun b _ => by rw [hd.1])
  exact Tur.In h7 ((Tur.of_below (P := P) (M := M) (Below.refl _ _)).grown hg) h1 h2
section
variable {w : World} {P M : Nat} {R : Nat → Prop} {L : Kl}
set_option maxRecDepth 100000 in
set_option maxHeartbeats 1600000 in
theorem drop_away (h : StoreAt w P M R L) (nm : ByteArray) (hnm : nm.size ≤ 1048576) (hg : lget nm L = none) :
    Calls Try.prog 23 #[.pointer (some ⟨P, 0, none⟩), .string nm] w fun e w' => e = .returned (.int .i64 221) ∧ Below w.heap.size w w' := by
  obtain ⟨hne, hp, ⟨D, hown, hrep⟩, _⟩ := h
  obtain ⟨hat, hhas⟩ := hrep.away hg
  have c0 := hp.cell 0
  simp only [List.getElem?_toArray, List.getElem?_cons_zero] at c0
  have HO := Lib.hid hown
  have HA := Lib.hid hat
  have HH := Lib.hid hhas
  clear hown hat hhas hrep hp hg
  go_enter Try.func23, Try.ntmps23
  go_wp2_with (at_lookup; refine wpList_look (P := Try.prog) _ rfl _ _ 59 rfl 9 70 sKeyed Try.underlying59 (Try.zeroValue70 _) M _ D rfl HO.out _ _ rfl (keyOf_string_mk Try.underlying9 (Nat.le_trans hnm (by decide))) _ _ HA.out HH.out ?_)
  go_ret
  exact ⟨rfl, below_alloc1 _ _⟩
set_option maxRecDepth 100000 in
set_option maxHeartbeats 1600000 in
theorem drop_here (h : StoreAt w P M R L) (nm : ByteArray) (hnm : nm.size ≤ 1048576) {t : T} (hg : lget nm L = some t) :
    Calls Try.prog 23 #[.pointer (some ⟨P, 0, none⟩), .string nm] w fun e w' => e = .returned (.int .i64 0) ∧ StoreAt w' P M R (ldel nm L) ∧ Tur w w' P M := by
  obtain ⟨hne, hp, ⟨D, hown, hrep⟩, hto, hln, hbk, hrp, hrm⟩ := h
  obtain ⟨k0, nm0, A1, n1, c1, ng, A2, n2, c2, A3, n3, c3, n0, hat, hhas, htot, _⟩ := hrep.look nm
  rw [hg] at hhas
  have hhas : has D (.string nm.data.toList) = true := hhas
  obtain ⟨tl, htl⟩ : ∃ tl, total L = tl := ⟨_, rfl⟩
  obtain ⟨td, htd⟩ : ∃ td, total (ldel nm L) = td := ⟨_, rfl⟩
  rw [htl] at hp hto htot
  rw [htd] at htot
  have HTD := Lib.hid htd
  have HTOT := Lib.hid htot
  have hwr : IntKind.i64.wrap ((tl : Int) - (n0 : Int)) = ((td : Nat) : Int) := by simp [IntKind.wrap, IntKind.bits, IntKind.signed]; omega
  clear htl htd htot
  have hll : (ldel nm L).length ≤ L.length := List.length_filter_le _ _
  have hlt := hp.lt
  have hmlt := hown.lt
  obtain ⟨e0, e1⟩ := hp.two
  have HO := Lib.hid hown
  have HA := Lib.hid hat
  have HH := Lib.hid hhas
  have HRP := Lib.hid hrep
  have HBK := Lib.hid hbk
  have HP := Lib.hid hp
  have HL := Lib.hid (And.intro hrp hrm)
  clear hown hat hhas hrep hp hg hbk hrp hrm e1
  go_enter Try.func23, Try.ntmps23
  go_upto_region 4 with (at_lookup; refine wpList_look (P := Try.prog) _ rfl _ _ 59 rfl 9 70 sKeyed Try.underlying59 (Try.zeroValue70 _) M _ D rfl HO.out _ _ rfl (keyOf_string_mk Try.underlying9 (Nat.le_trans hnm (by decide))) _ _ HA.out HH.out ?_)
  obtain ⟨W2, hW2, pk, hb2⟩ := made_blk w #[.int .i64 k0, .string nm0, .slice A1 n1 c1, .bool ng, .slice A2 n2 c2, .slice A3 n3 c3, .int .i64 (n0 : Nat)] 70
  obtain ⟨Bk, hBk⟩ : ∃ b, b = w.heap.size := ⟨_, rfl⟩
  rw [← hW2, ← hBk]
  rw [← hBk] at pk
  have hp2 := HP.out.below hb2
  have HO2 := Lib.hid (HO.out.kept (gb_of_below hb2 none) (by simp))
  have hsz2 := hb2.size
  have hbkm : Bk ≠ M := by omega
  have hbkp : Bk ≠ P := by omega
  have hkl := pk.lt
  clear hW2 e0 hBk
  obtain ⟨e0, e1⟩ := hp2.two
  go_upto_region 7 with (at_delete; refine wpList_delete_own (P := Try.prog) _ rfl _ _ 59 9 rfl 70 sKeyed Try.underlying59 RV M _ D rfl HO2.out _ _ rfl (keyOf_string_mk Try.underlying9 (Nat.le_trans hnm (by decide))) ?_; intro w4 hown4 hturn4)
  have hg4 := hturn4.grown
  have hT4 := (Tur.of_below (P := P) (M := M) hb2).grown hg4
  have hp4 : Blk w4 P 61 #[.map (some M), .int .i64 (tl : Nat)] := (hg4.block P (by omega) (fun e => hne (by injection e))).trans hp2
  have pk4 : Blk w4 Bk 70 #[.int .i64 k0, .string nm0, .slice A1 n1 c1, .bool ng, .slice A2 n2 c2, .slice A3 n3 c3, .int .i64 (n0 : Nat)] := (hg4.block Bk hkl (fun e => hbkm (by injection e))).trans pk
  have HOW := Lib.hid hown4
  have hlen4 : Maps.size (D.del (.string nm.data.toList)) = (ldel nm L).length := (HRP.out.del nm).size
  clear hown4 hturn4 e0 e1
  obtain ⟨e0, e1⟩ := hp4.two
  have k6 := pk4.k7
  have f1 := hp4.free 1
  go_region
  all_goals
    go_wp2_with fail
    go_ret
    have hTf := hT4.setCell 1 (.int .i64 ((td : Nat) : Int))
    have hfin := hp4.put 1 (.int .i64 ((td : Nat) : Int))
    rw [← HTD.out] at hfin hTf ⊢
    refine ⟨rfl, StoreAt.below (w := w4.setCell ⟨P, 1, none⟩ (.int .i64 ((total (ldel nm L) : Nat) : Int))) ⟨hne, hfin, ⟨_, ((hlen4 ▸ World.ownsMap.tight HOW.out : w4.ownsMap Try.prog 9 RV M (ldel nm L).length (D.del (.string nm.data.toList)))).setCell (fun e => hne e.symm) _, (HRP.out.del nm).keep (fun p _ v hv => hTf.In hv HL.out.1 HL.out.2)⟩, by rw [HTD.out]; have := HTOT.out; omega, by omega, (fun p hp => HBK.out p (List.mem_filter.1 hp).1), HL.out.1, HL.out.2⟩ (below_drew1 _), hTf.below (below_drew1 _)⟩
set_option maxRecDepth 100000 in
set_option maxHeartbeats 6400000 in
theorem put_noname (_h : StoreAt w P M R L) (nm : ByteArray) (hnm : nm.size ≤ 1048576) (t : T) (v : Value) (R0 : Nat → Prop) (_hbt : t.bulk ≤ 1048576) (ht : T.In w R0 t v) (hnb : nameB nm = false) :
    Calls Try.prog 20 #[.pointer (some ⟨P, 0, none⟩), .string nm, v] w fun e w' => e = .returned (.int .i64 220) ∧ Below w.heap.size w w' := by
  obtain ⟨A1', c1', A2', c2', A3', c3', rfl, _⟩ := ht.form
  have hal := below_alloc1 w (.cells #[.int .i64 t.k, .string t.nm, .slice A1' t.ns.length c1', .bool t.ng, .slice A2' t.mg.length c2', .slice A3' t.ks.length c3'] 35)
  have HI := Lib.hid (ht.below hal)
  have pt := Blk.new w 35 #[.int .i64 t.k, .string t.nm, .slice A1' t.ns.length c1', .bool t.ng, .slice A2' t.mg.length c2', .slice A3' t.ks.length c3']
  have HAL := Lib.hid hal
  clear ht hal
  have HNM := Lib.hid hnb
  clear hnb pt
  go_enter Try.func20, Try.ntmps20
  go_wp2_with (go_at_call 34; refine (isname_l _ nm (Nat.le_trans hnm (by decide)) HNM.out).mono ?_; rintro e w2 ⟨rfl, rfl⟩)
  go_ret
  exact ⟨rfl, HAL.out⟩
set_option maxRecDepth 100000 in
set_option maxHeartbeats 6400000 in
theorem put_bad (_h : StoreAt w P M R L) (nm : ByteArray) (hnm : nm.size ≤ 1048576) (t : T) (v : Value) (R0 : Nat → Prop) (hbt : t.bulk ≤ 1048576) (ht : T.In w R0 t v) (hnb : nameB nm = true) (hc : t.chk ≠ 0) :
    Calls Try.prog 20 #[.pointer (some ⟨P, 0, none⟩), .string nm, v] w fun e w' => e = .returned (.int .i64 t.chk) ∧ Below w.heap.size w w' := by
  obtain ⟨A1', c1', A2', c2', A3', c3', rfl, _⟩ := ht.form
  have hal := below_alloc1 w (.cells #[.int .i64 t.k, .string t.nm, .slice A1' t.ns.length c1', .bool t.ng, .slice A2' t.mg.length c2', .slice A3' t.ks.length c3'] 35)
  have HI := Lib.hid (ht.below hal)
  have pt := Blk.new w 35 #[.int .i64 t.k, .string t.nm, .slice A1' t.ns.length c1', .bool t.ng, .slice A2' t.mg.length c2', .slice A3' t.ks.length c3']
  have HAL := Lib.hid hal
  clear ht hal
  have HNM := Lib.hid hnb
  obtain ⟨ch, hch⟩ : ∃ ch, t.chk = ch := ⟨_, rfl⟩
  rw [hch] at hc ⊢
  have HCH := Lib.hid hch
  have hne : (ch != 0) = true := by simpa using hc
  obtain ⟨x0, x1, x2, x3, x4, x5⟩ := pt.six
  clear hnb hch hc
  go_enter Try.func20, Try.ntmps20
  go_wp2_with (first | (go_at_call 34; refine (isname_l _ nm (Nat.le_trans hnm (by decide)) HNM.out).mono ?_; rintro e w2 ⟨rfl, rfl⟩) | (go_at_call 35; refine (check_t t _ R0 _ hbt HI.out).mono ?_; rw [HCH.out]; rintro e w3 ⟨rfl, hb3⟩))
  go_ret
  exact ⟨rfl, below_on HAL.out hb3⟩
set_option maxRecDepth 100000 in
set_option maxHeartbeats 6400000 in
theorem put_full (h : StoreAt w P M R L) (nm : ByteArray) (hnm : nm.size ≤ 1048576) (t : T) (v : Value) (R0 : Nat → Prop) (hbt : t.bulk ≤ 1048576) (ht : T.In w R0 t v) (hnb : nameB nm = true) (hc : t.chk = 0) (hbig : big nm t L = true) :
    Calls Try.prog 20 #[.pointer (some ⟨P, 0, none⟩), .string nm, v] w fun e w' => e = .returned (.int .i64 222) ∧ Below w.heap.size w w' := by
  obtain ⟨A1', c1', A2', c2', A3', c3', rfl, _⟩ := ht.form
  have hal := below_alloc1 w (.cells #[.int .i64 t.k, .string t.nm, .slice A1' t.ns.length c1', .bool t.ng, .slice A2' t.mg.length c2', .slice A3' t.ks.length c3'] 35)
  have HI := Lib.hid (ht.below hal)
  have pt := Blk.new w 35 #[.int .i64 t.k, .string t.nm, .slice A1' t.ns.length c1', .bool t.ng, .slice A2' t.mg.length c2', .slice A3' t.ks.length c3']
  have HAL := Lib.hid hal
  clear ht hal
  have HNM := Lib.hid hnb
  have HCH := Lib.hid hc
  obtain ⟨hne, hp, ⟨D, hown, hrep⟩, hto, hln, hbk, hrp, hrm⟩ := h
  obtain ⟨k0, nm0, A1, n1, c1, ng, A2, n2, c2, A3, n3, c3, n0, hat, hhas, htot, hn0⟩ := hrep.look nm
  obtain ⟨tl, htl⟩ : ∃ tl, total L = tl := ⟨_, rfl⟩
  obtain ⟨td, htd⟩ : ∃ td, total (ldel nm L) = td := ⟨_, rfl⟩
  obtain ⟨q, hq⟩ : ∃ q, (lget nm L).isSome = q := ⟨_, rfl⟩
  obtain ⟨ll, hll⟩ : ∃ ll, L.length = ll := ⟨_, rfl⟩
  obtain ⟨s, hs⟩ : ∃ s, sz t = s := ⟨_, rfl⟩
  have hs3 : s ≤ 3001 := by rw [← hs]; exact Nat.min_le_right _ _
  unfold big at hbig
  rw [hq, hll, hs, htd] at hbig
  rw [htl] at hp hto htot
  rw [htd] at htot
  rw [hq] at hhas
  rw [hll] at hown hln
  have hsize := hrep.size
  rw [hll] at hsize
  have HTD := Lib.hid htd
  have HTOT := Lib.hid htot
  have HS := Lib.hid hs
  have HLL := Lib.hid hll
  have HQ := Lib.hid hq
  have hwr : IntKind.i64.wrap ((tl : Int) - (n0 : Int)) = ((td : Nat) : Int) := by simp [IntKind.wrap, IntKind.bits, IntKind.signed]; omega
  have hwr2 : IntKind.i64.wrap (3000 - ((td : Nat) : Int)) = 3000 - ((td : Nat) : Int) := by simp [IntKind.wrap, IntKind.bits, IntKind.signed]; omega
  have hlt := hp.lt
  have hmlt := hown.lt
  have hp1 := hp.below HAL.out
  have HO := Lib.hid (hown.kept (gb_of_below HAL.out none) (by simp))
  have HA := Lib.hid hat
  have HH := Lib.hid hhas
  have HRP := Lib.hid hrep
  have HBK := Lib.hid hbk
  have HL := Lib.hid (And.intro hrp hrm)
  have HSZ := Lib.hid hsize
  obtain ⟨x0, x1, x2, x3, x4, x5⟩ := pt.six
  have ptl := pt.lt
  have ptg : w.heap.size ≤ w.heap.size := Nat.le_refl _
  obtain ⟨W1, hW1⟩ : ∃ W1, W1 = w.alloc (.cells #[.int .i64 t.k, .string t.nm, .slice A1' t.ns.length c1', .bool t.ng, .slice A2' t.mg.length c2', .slice A3' t.ks.length c3'] 35) := ⟨_, rfl⟩
  obtain ⟨Bt, hBt⟩ : ∃ Bt, Bt = w.heap.size := ⟨_, rfl⟩
  have hbtp : Bt ≠ P := by omega
  have hbtm : Bt ≠ M := by omega
  rw [← hW1, ← hBt] at pt x0 x1 x2 x3 x4 x5
  rw [← hW1] at HI HO HAL hp1 ptl
  have HG := Lib.hid hBt
  clear hnb hc htl htd hs hll hq hat hhas hrep hbk hrp hrm hp hown htot hsize ptg
  go_enter Try.func20, Try.ntmps20
  go_upto_region 1 with (fail)
  rw [← hW1, ← hBt]
  clear hW1 hBt
  go_upto_region 8 with (first | (go_at_call 34; refine (isname_l _ nm (Nat.le_trans hnm (by decide)) HNM.out).mono ?_; rintro e w2 ⟨rfl, rfl⟩) | (go_at_call 35; refine (check_t t _ R0 _ hbt HI.out).mono ?_; rw [HCH.out]; rintro e w3 ⟨rfl, hb3⟩))
  have pt3 := pt.below hb3
  have hp3 := hp1.below hb3
  have HO3 := Lib.hid (HO.out.kept (gb_of_below hb3 none) (by simp))
  have hb4 := below_on HAL.out hb3
  have HI3 := Lib.hid (HI.out.below hb3)
  clear x0 x1 x2 x3 x4 x5 hb3 hp1 pt
  obtain ⟨e0, e1⟩ := hp3.two
  go_upto_region 9 with (at_lookup; refine wpList_look (P := Try.prog) _ rfl _ _ 59 rfl 9 70 sKeyed Try.underlying59 (Try.zeroValue70 _) M _ D rfl HO3.out _ _ rfl (keyOf_string_mk Try.underlying9 (Nat.le_trans hnm (by decide))) _ _ HA.out HH.out ?_)
  obtain ⟨W4, hW4, pk, hb5⟩ := made_blk w3 #[.int .i64 k0, .string nm0, .slice A1 n1 c1, .bool ng, .slice A2 n2 c2, .slice A3 n3 c3, .int .i64 (n0 : Nat)] 70
  obtain ⟨Bk, hBk⟩ : ∃ b, b = w3.heap.size := ⟨_, rfl⟩
  have hsz4 := hb4.size
  have hbkp : Bk ≠ P := by omega
  have hbkm : Bk ≠ M := by omega
  rw [← hW4, ← hBk]
  rw [← hBk] at pk
  have pt4 := pt3.below hb5
  have hp4 := hp3.below hb5
  have HO4 := Lib.hid (HO3.out.kept (gb_of_below hb5 none) (by simp))
  have hb6 := below_on hb4 hb5
  have HI4 := Lib.hid (HI3.out.below hb5)
  clear hW4 hBk e0 e1 hb5 hb4 hsz4 pt3 hp3
  obtain ⟨x0, x1, x2, x3, x4, x5⟩ := pt4.six
  go_upto_region 10 with (go_at_call 36; refine (size_sz hbt HI4.out).mono ?_; rw [HS.out]; rintro e w5 ⟨rfl, hb7⟩)
  have pt5 := pt4.below hb7
  have hp5 := hp4.below hb7
  have pk5 := pk.below hb7
  have HO5 := Lib.hid (HO4.out.kept (gb_of_below hb7 none) (by simp))
  have hb8 := below_on hb6 hb7
  have HI5 := Lib.hid (HI4.out.below hb7)
  clear x0 x1 x2 x3 x4 x5 hb7 pt4 hp4 pk hb6
  obtain ⟨e0, e1⟩ := hp5.two
  have k6 := pk5.k7
  have hlen : ∀ (n : Nat) (ty : TypeId), (Builtin.len_ #[59] ty #[.map (some M)]).run Try.prog (w5.drewN n) = .ok (.int .i64 (ll : Nat)) (w5.drewN n) := by
    intro n ty
    have := (HO5.out.kept (gb_of_below (below_drewN (Below.refl _ _) n) none) (by simp)).len Try.underlying59 ty
    rw [HSZ.out] at this
    exact this
  go_cut [53] from 80 (fun v53 wd => v53 = .bool true ∧ Below w5.heap.size w5 wd)
  case first =>
    have hB := Lib.hid hbig
    clear hbig
    have d2 : decide ((s : Int) > 3000 - (td : Int)) = decide (3000 < s + td) := by rw [decide_eq_decide]; omega
    have d2' : decide (3000 - (td : Int) < (s : Int)) = decide (3000 < s + td) := by rw [decide_eq_decide]; omega
    obtain ⟨r, hr⟩ : ∃ r, decide (3000 < s + td) = r := ⟨_, rfl⟩
    rw [hr] at d2 d2'
    have d3 : decide ((ll : Int) ≥ 40) = decide (40 ≤ ll) := by rw [decide_eq_decide]; omega
    obtain ⟨z, hz⟩ : ∃ z, decide (40 ≤ ll) = z := ⟨_, rfl⟩
    rw [hz] at d3
    have d4 : decide (40 ≤ ll) = z := hz
    have hB2 := hB.out
    rw [hr, hz] at hB2
    clear hr hz
    cases q
    case true =>
      have hB3 : r = true := by simpa using hB2
      subst hB3
      go_quiet (fail)
      go_wp2_with fail
      go_meet
      exact ⟨rfl, below_drewN (Below.refl _ _) _⟩
    case false =>
      cases z
      case true =>
        go_quiet (fail)
        go_wp2_with fail
        go_meet
        exact ⟨rfl, below_drewN (Below.refl _ _) _⟩
      case false =>
        have hB3 : r = true := by simpa using hB2
        subst hB3
        go_quiet (fail)
        go_wp2_with fail
        go_meet
        exact ⟨rfl, below_drewN (Below.refl _ _) _⟩
  case rest =>
    obtain ⟨rfl, hbz⟩ := hcut
    go_wp2_with fail
    go_ret
    exact ⟨rfl, below_on hb8 hbz⟩
set_option maxRecDepth 100000 in
set_option maxHeartbeats 6400000 in
theorem put_ok (h : StoreAt w P M R L) (nm : ByteArray) (hnm : nm.size ≤ 1048576) (t : T) (v : Value) (R0 : Nat → Prop) (hbt : t.bulk ≤ 1048576) (ht : T.In w R0 t v) (hnb : nameB nm = true) (hc : t.chk = 0) (hbig : big nm t L = false) (hRn : ∀ b, w.heap.size ≤ b → R b) :
    Calls Try.prog 20 #[.pointer (some ⟨P, 0, none⟩), .string nm, v] w fun e w' => e = .returned (.int .i64 0) ∧ StoreAt w' P M R (lput nm t.cp L) ∧ Tur w w' P M := by
  obtain ⟨A1', c1', A2', c2', A3', c3', rfl, _⟩ := ht.form
  have hal := below_alloc1 w (.cells #[.int .i64 t.k, .string t.nm, .slice A1' t.ns.length c1', .bool t.ng, .slice A2' t.mg.length c2', .slice A3' t.ks.length c3'] 35)
  have HI := Lib.hid (ht.below hal)
  have pt := Blk.new w 35 #[.int .i64 t.k, .string t.nm, .slice A1' t.ns.length c1', .bool t.ng, .slice A2' t.mg.length c2', .slice A3' t.ks.length c3']
  have HAL := Lib.hid hal
  have HCB := Lib.hid ht.cp_bulk
  clear ht hal
  have HBG : Hid (¬ 3000 < sz t + total (ldel nm L)) := Lib.hid (by unfold big at hbig; simp only [Bool.or_eq_false_iff, decide_eq_false_iff_not] at hbig; exact hbig.2)
  have hlput : ∀ {q : Bool}, (lget nm L).isSome = q → (lput nm t.cp L).length ≤ 40 := by
    intro q _
    have h1 := (lput_perm nm t.cp L h.2.2.1.choose_spec.2.1).length_eq
    have h40 := h.2.2.2.2.1
    rw [h1, List.length_cons]
    cases hgg : lget nm L with
    | none =>
      rw [ldel_away hgg]
      unfold big at hbig
      rw [hgg] at hbig
      simp at hbig
      omega
    | some u =>
      have := (ldel_here h.2.2.1.choose_spec.2.1 hgg).length_eq
      rw [List.length_cons] at this
      omega
  have HNM := Lib.hid hnb
  have HCH := Lib.hid hc
  obtain ⟨hne, hp, ⟨D, hown, hrep⟩, hto, hln, hbk, hrp, hrm⟩ := h
  obtain ⟨k0, nm0, A1, n1, c1, ng, A2, n2, c2, A3, n3, c3, n0, hat, hhas, htot, hn0⟩ := hrep.look nm
  obtain ⟨tl, htl⟩ : ∃ tl, total L = tl := ⟨_, rfl⟩
  obtain ⟨td, htd⟩ : ∃ td, total (ldel nm L) = td := ⟨_, rfl⟩
  obtain ⟨q, hq⟩ : ∃ q, (lget nm L).isSome = q := ⟨_, rfl⟩
  obtain ⟨ll, hll⟩ : ∃ ll, L.length = ll := ⟨_, rfl⟩
  obtain ⟨s, hs⟩ : ∃ s, sz t = s := ⟨_, rfl⟩
  have hs3 : s ≤ 3001 := by rw [← hs]; exact Nat.min_le_right _ _
  unfold big at hbig
  rw [hq, hll, hs, htd] at hbig
  rw [hs, htd] at HBG
  rw [htl] at hp hto htot
  rw [htd] at htot
  rw [hq] at hhas
  rw [hll] at hown hln
  have hsize := hrep.size
  rw [hll] at hsize
  have HTD := Lib.hid htd
  have HTOT := Lib.hid htot
  have HS := Lib.hid hs
  have HLL := Lib.hid hll
  have HQ := Lib.hid hq
  have hwr : IntKind.i64.wrap ((tl : Int) - (n0 : Int)) = ((td : Nat) : Int) := by simp [IntKind.wrap, IntKind.bits, IntKind.signed]; omega
  have hwr2 : IntKind.i64.wrap (3000 - ((td : Nat) : Int)) = 3000 - ((td : Nat) : Int) := by simp [IntKind.wrap, IntKind.bits, IntKind.signed]; omega
  have hlt := hp.lt
  have hmlt := hown.lt
  have hp1 := hp.below HAL.out
  have HO := Lib.hid (hown.kept (gb_of_below HAL.out none) (by simp))
  have HA := Lib.hid hat
  have HH := Lib.hid hhas
  have HRP := Lib.hid hrep
  have HBK := Lib.hid hbk
  have HL := Lib.hid (And.intro hrp hrm)
  have HSZ := Lib.hid hsize
  obtain ⟨x0, x1, x2, x3, x4, x5⟩ := pt.six
  have ptl := pt.lt
  have ptg : w.heap.size ≤ w.heap.size := Nat.le_refl _
  obtain ⟨W1, hW1⟩ : ∃ W1, W1 = w.alloc (.cells #[.int .i64 t.k, .string t.nm, .slice A1' t.ns.length c1', .bool t.ng, .slice A2' t.mg.length c2', .slice A3' t.ks.length c3'] 35) := ⟨_, rfl⟩
  obtain ⟨Bt, hBt⟩ : ∃ Bt, Bt = w.heap.size := ⟨_, rfl⟩
  have hbtp : Bt ≠ P := by omega
  have hbtm : Bt ≠ M := by omega
  rw [← hW1, ← hBt] at pt x0 x1 x2 x3 x4 x5
  rw [← hW1] at HI HO HAL hp1 ptl
  have HG := Lib.hid hBt
  clear hnb hc htl htd hs hll hq hat hhas hrep hbk hrp hrm hp hown htot hsize ptg
  go_enter Try.func20, Try.ntmps20
  go_upto_region 1 with (fail)
  rw [← hW1, ← hBt]
  clear hW1 hBt
  go_upto_region 8 with (first | (go_at_call 34; refine (isname_l _ nm (Nat.le_trans hnm (by decide)) HNM.out).mono ?_; rintro e w2 ⟨rfl, rfl⟩) | (go_at_call 35; refine (check_t t _ R0 _ hbt HI.out).mono ?_; rw [HCH.out]; rintro e w3 ⟨rfl, hb3⟩))
  have pt3 := pt.below hb3
  have hp3 := hp1.below hb3
  have HO3 := Lib.hid (HO.out.kept (gb_of_below hb3 none) (by simp))
  have hb4 := below_on HAL.out hb3
  have HI3 := Lib.hid (HI.out.below hb3)
  clear x0 x1 x2 x3 x4 x5 hb3 hp1 pt
  obtain ⟨e0, e1⟩ := hp3.two
  go_upto_region 9 with (at_lookup; refine wpList_look (P := Try.prog) _ rfl _ _ 59 rfl 9 70 sKeyed Try.underlying59 (Try.zeroValue70 _) M _ D rfl HO3.out _ _ rfl (keyOf_string_mk Try.underlying9 (Nat.le_trans hnm (by decide))) _ _ HA.out HH.out ?_)
  obtain ⟨W4, hW4, pk, hb5⟩ := made_blk w3 #[.int .i64 k0, .string nm0, .slice A1 n1 c1, .bool ng, .slice A2 n2 c2, .slice A3 n3 c3, .int .i64 (n0 : Nat)] 70
  obtain ⟨Bk, hBk⟩ : ∃ b, b = w3.heap.size := ⟨_, rfl⟩
  have hsz4 := hb4.size
  have hbkp : Bk ≠ P := by omega
  have hbkm : Bk ≠ M := by omega
  rw [← hW4, ← hBk]
  rw [← hBk] at pk
  have pt4 := pt3.below hb5
  have hp4 := hp3.below hb5
  have HO4 := Lib.hid (HO3.out.kept (gb_of_below hb5 none) (by simp))
  have hb6 := below_on hb4 hb5
  have HI4 := Lib.hid (HI3.out.below hb5)
  clear hW4 hBk e0 e1 hb5 hb4 hsz4 pt3 hp3
  obtain ⟨x0, x1, x2, x3, x4, x5⟩ := pt4.six
  go_upto_region 10 with (go_at_call 36; refine (size_sz hbt HI4.out).mono ?_; rw [HS.out]; rintro e w5 ⟨rfl, hb7⟩)
  have pt5 := pt4.below hb7
  have hp5 := hp4.below hb7
  have pk5 := pk.below hb7
  have HO5 := Lib.hid (HO4.out.kept (gb_of_below hb7 none) (by simp))
  have hb8 := below_on hb6 hb7
  have HI5 := Lib.hid (HI4.out.below hb7)
  clear x0 x1 x2 x3 x4 x5 hb7 pt4 hp4 pk hb6
  obtain ⟨e0, e1⟩ := hp5.two
  have k6 := pk5.k7
  have hlen : ∀ (n : Nat) (ty : TypeId), (Builtin.len_ #[59] ty #[.map (some M)]).run Try.prog (w5.drewN n) = .ok (.int .i64 (ll : Nat)) (w5.drewN n) := by
    intro n ty
    have := (HO5.out.kept (gb_of_below (below_drewN (Below.refl _ _) n) none) (by simp)).len Try.underlying59 ty
    rw [HSZ.out] at this
    exact this
  go_cut [53] from 80 (fun v53 wd => v53 = .bool false ∧ Below w5.heap.size w5 wd)
  case first =>
    have hB := Lib.hid hbig
    clear hbig
    have d2 : decide ((s : Int) > 3000 - (td : Int)) = decide (3000 < s + td) := by rw [decide_eq_decide]; omega
    have d2' : decide (3000 - (td : Int) < (s : Int)) = decide (3000 < s + td) := by rw [decide_eq_decide]; omega
    obtain ⟨r, hr⟩ : ∃ r, decide (3000 < s + td) = r := ⟨_, rfl⟩
    rw [hr] at d2 d2'
    have d3 : decide ((ll : Int) ≥ 40) = decide (40 ≤ ll) := by rw [decide_eq_decide]; omega
    obtain ⟨z, hz⟩ : ∃ z, decide (40 ≤ ll) = z := ⟨_, rfl⟩
    rw [hz] at d3
    have d4 : decide (40 ≤ ll) = z := hz
    have hB2 := hB.out
    rw [hr, hz] at hB2
    clear hr hz
    cases q
    case true =>
      have hB3 : r = false := by simpa using hB2
      subst hB3
      go_quiet (fail)
      go_wp2_with fail
      go_meet
      exact ⟨rfl, below_drewN (Below.refl _ _) _⟩
    case false =>
      cases z
      case true =>
        exact absurd hB2 (by simp)
      case false =>
        have hB3 : r = false := by simpa using hB2
        subst hB3
        go_quiet (fail)
        go_wp2_with fail
        go_meet
        exact ⟨rfl, below_drewN (Below.refl _ _) _⟩
  case rest =>
    obtain ⟨rfl, hbz⟩ := hcut
    have pt6 := pt5.below hbz
    have hp6 := hp5.below hbz
    have pk6 := pk5.below hbz
    have HO6 := Lib.hid (HO5.out.kept (gb_of_below hbz none) (by simp))
    have hb9 := below_on hb8 hbz
    have HIX := Lib.hid (fun (w' : World) (hb : Below wc.heap.size wc w') => (HI5.out.below hbz).below hb)
    clear hlen hb8 hbz pt5 hp5 e0 e1 k6 hwr2 hbig
    go_upto_region 12 with (fail)
    have hgw := hb9.size
    have HB9 := Lib.hid hb9
    clear hb9
    obtain ⟨x0, x1, x2, x3, x4, x5⟩ := pt6.six
    obtain ⟨e0, e1⟩ := hp6.two
    go_cut [61] from 80 (fun v61 wd => v61 = .int .i64 (s : Nat) ∧ Mid w wd P M R tl n0 s Bk ll #[.int .i64 k0, .string nm0, .slice A1 n1 c1, .bool ng, .slice A2 n2 c2, .slice A3 n3 c3, .int .i64 (n0 : Nat)] D nm t.cp)
    case first =>
      go_region_with ((go_at_call 33; refine (copy_t 1048576 t _ R0 _ hbt (by omega) (HIX.out _ (by first | exact Below.refl _ _ | exact (Below.refl _ _).drew | exact ((Below.refl _ _).drew).drew))).mono ?_; rintro e w7 ⟨c, rfl, hNew, hb7⟩; have hb7' : Below wc.heap.size wc w7 := below_on (by first | exact Below.refl _ _ | exact (Below.refl _ _).drew | exact ((Below.refl _ _).drew).drew) hb7; obtain ⟨u, hu⟩ : ∃ u, T.cp t = u := ⟨_, rfl⟩; rw [hu] at hNew; have HU := Lib.hid hu; have HNEW := Lib.hid hNew; obtain ⟨F1, f1, F2, f2, F3, f3, rfl⟩ := hNew.form; have e07 := (hp6.below hb7').two.1; obtain ⟨ob, g, hM7, hru, hpr⟩ := upd_fun (Pr := Try.prog) (HO6.out.kept (gb_of_below hb7' none) (by simp)) sKeyed Try.underlying59 (show ll < maxLen from Nat.lt_of_le_of_lt hln (by decide)) (keyOf_string_mk Try.underlying9 (Nat.le_trans hnm (by decide))) (kw (tc u.k u.nm F1 u.ns.length f1 u.ng F2 u.mg.length f2 F3 u.ks.length f3) s); have r0 := hru w7 hM7; have r1 := hru w7.drew hM7; have r2 := hru w7.drew.drew hM7; have HM7 := Lib.hid hM7; have HPR := Lib.hid hpr; have HB7 := Lib.hid hb7'; clear hu hNew hM7 hru hpr hb7 hb7'))
      all_goals
        go_wp2_with fail
        go_meet
        exact ⟨rfl, mid_done hne hbkm HB9.out (fun b h _ => hRn b (Nat.le_trans hgw h)) hp6 pk6 HL.out.1 HL.out.2 HB7.out (by rw [HU.out]; exact HNEW.out) ⟨rfl, rfl, rfl, rfl⟩ (HPR.out _ HM7.out).1 (HPR.out _ HM7.out).2⟩
    case rest =>
      obtain ⟨rfl, c, hown, hin, hp7, pk7, hT⟩ := hcut
      have hn61 : (lput nm t.cp L).length ≤ 40 := hlput HQ.out
      have hrep : Reps wc R (D.put (.string nm.data.toList) (.held (kw c (sz t.cp)))) (lput nm t.cp L) := (HRP.out.keep (fun p _ v hv => hT.In hv HL.out.1 HL.out.2)).put nm hin
      rw [T.cp_sz, HS.out] at hrep
      have hlen := hrep.size
      have HREP := Lib.hid hrep
      have HOW := Lib.hid (hlen ▸ World.ownsMap.tight hown : wc.ownsMap Try.prog 9 RV M (lput nm t.cp L).length (D.put (.string nm.data.toList) (.held (kw c s))))
      clear hown hin hrep hlen x0 x1 x2 x3 x4 x5 e0 e1
      obtain ⟨e0, e1⟩ := hp7.two
      have k6 := pk7.k7
      have f1 := hp7.free 1
      obtain ⟨tn, htn⟩ : ∃ tn, total (lput nm t.cp L) = tn := ⟨_, rfl⟩
      have htn2 : tn = s + td := by rw [← htn, total_perm (lput_perm nm t.cp L HRP.out.1), total_cons, T.cp_sz, HS.out, HTD.out]
      have htn3 : tn ≤ 3000 := by have := HBG.out; omega
      have hwr3 : IntKind.i64.wrap ((s : Int) - (n0 : Int)) = (s : Int) - (n0 : Int) := by simp [IntKind.wrap, IntKind.bits, IntKind.signed]; omega
      have hwr4 : IntKind.i64.wrap ((tl : Int) + ((s : Int) - (n0 : Int))) = ((tn : Nat) : Int) := by have := HTOT.out; simp [IntKind.wrap, IntKind.bits, IntKind.signed]; omega
      have HTN := Lib.hid htn
      clear htn htn2
      go_upto_region 13 with (fail)
      go_region
      all_goals
        go_wp2_with fail
        go_ret
        have hTf := hT.setCell 1 (.int .i64 ((tn : Nat) : Int))
        have hfin := hp7.put 1 (.int .i64 ((tn : Nat) : Int))
        rw [← HTN.out] at hfin hTf htn3 ⊢
        refine ⟨rfl, StoreAt.below (w := wc.setCell ⟨P, 1, none⟩ (.int .i64 ((total (lput nm t.cp L) : Nat) : Int))) ⟨hne, hfin, ⟨_, HOW.out.setCell (fun e => hne e.symm) _, HREP.out.keep (fun p _ v hv => ((Tur.of_below (P := P) (M := M) (Below.refl wc.heap.size wc)).setCell 1 _).In hv HL.out.1 HL.out.2)⟩, htn3, hn61, ?_, HL.out.1, HL.out.2⟩ (below_drew1 _), hTf.below (below_drew1 _)⟩
        intro p hp
        rcases List.mem_cons.1 ((lput_perm nm t.cp L HRP.out.1).mem_iff.1 hp) with rfl | hp
        · exact ⟨Nat.le_trans HCB.out hbt, hnm⟩
        · exact HBK.out p (List.mem_filter.1 hp).1
end
end Go.Proofs.Ytmncamnlmpajbaa

/-
  The document's store: Put: contract.
-/
import Derived.Test.YtmncamnlmpajbaaSRPts
import Derived.Test.YtmncamnlmpajbaaSRow2
import Derived.Test.YtmncamnlmpajbaaSPut
import Derived.Deep.RegionLaw
import Derived.Deep.CutRange
namespace Go.Proofs.Ytmncamnlmpajbaa
open Go.RowKit Go.Maps Go.WideMaps Go.Op

/-- 'append(l, k)', run: where the row lies behind. -/
theorem run_append_k7 {P : Program} (w : World) (t u : TypeId)
    (base : Nat) (i : TypeInfo) (ht : P.underlying t = some (.slice 65)) (hi : P.info? 65 = some i) (hz : i.zero = some (.agg #[.string ⟨#[]⟩, .int .i64 0, .string ⟨#[]⟩, .slice none 0 0, .bool false, .slice none 0 0, .slice none 0 0])) (hsize : i.size = 7) (hby : i.bytes = 120)
    (v : Value) (n : Nat) (xs : List Value) (hown : w.ownsRow base 65 7 v n xs)
    (g c : Nat) (p : ByteArray × Kc) (hc : ∀ j u, (pcl p)[j]? = some u → w.cell? ⟨g, j, none⟩ = some u) (hone : ∀ u ∈ pcl p, u.oneCell' = true)
    (hb : n < 1048576) (hbase : base ≤ w.heap.size) :
    ∃ v' w', (Builtin.append_ #[t, t] u #[v, .slice (some ⟨g, 0, none⟩) 1 c]).run P w = .ok v' w' ∧ w'.ownsRow base 65 7 v' (n + 1) (xs ++ pcl p) ∧ w.grownBy w' v.ownBlock ∧ (∀ k, v'.ownBlock = some k → v.ownBlock = some k ∨ w.heap.size ≤ k) := by
  have hnews : ∀ j u, (pcl p)[j]? = some u → w.cell? ((⟨g, 0, none⟩ : Addr).add j) = some u := fun j u hu => by rw [Addr.add_lit, Nat.zero_add]; exact hc j u hu
  obtain ⟨v', w', hr, h2, h3, h4⟩ := run_append_src (P := P) w base t u 65 i _ 7 120 ht hi hz hsize hby rfl (by decide) v n xs hown (some ⟨g, 0, none⟩) 1 c (pcl p) rfl (fun _ => ⟨_, rfl, hnews⟩) hone (by unfold maxLen; omega) (by omega) hbase
  refine ⟨v', w', hr, h2, h3, ?_⟩
  rcases hown.2 with ⟨rfl, rfl⟩ | ⟨g0, cap, cur, rfl, a1, a2, a3, a4, a5, a6⟩
  · have hrn := run_append_nil (P := P) (w := w) t u 65 i _ ht hi hz ⟨g, 0, none⟩ 1 c (pcl p) (by rw [hsize]; rfl) hnews (by omega) (by omega) (by rw [hby]; omega)
    rw [hrn] at hr
    injection hr with e1 e2
    subst e1
    intro k e
    injection e with e
    subst e
    exact .inr (Nat.le_refl _)
  · by_cases hroom : n + 1 ≤ cap
    · have hrn := run_append_room (P := P) w t u 65 i ht hi g0 n cap cur a2 ⟨g, 0, none⟩ 1 c (pcl p) (by rw [hsize]; rfl) hnews hone hroom (by rw [hsize, a5, show (pcl p).length = 7 from rfl]; omega)
      rw [hrn] at hr
      injection hr with e1 e2
      subst e1
      exact fun k e => .inl e
    · have hcl : ∀ j u, xs[j]? = some u → w.cell? ((⟨g0, 0, none⟩ : Addr).add j) = some u := fun j u hu => by
        have hj := (List.getElem?_eq_some_iff.1 hu).1
        rw [hown.1] at hj
        rw [← a6, List.getElem?_take_of_lt hj] at hu
        rw [Addr.add_lit, Nat.zero_add, cell_of_row _ _ _ _ _ _ a2, ← Array.getElem?_toList, hu]
      have hrn := run_append_grow (P := P) (w := w) t u 65 i _ ht hi hz ⟨g0, 0, none⟩ n cap xs (by rw [hsize, hown.1]) hcl ⟨g, 0, none⟩ 1 c (pcl p) (by rw [hsize]; rfl) hnews (by omega) (by omega) (by rw [hby]; exact growslice_fits (by omega) (by omega))
      rw [hrn] at hr
      injection hr with e1 e2
      subst e1
      intro k e
      injection e with e
      subst e
      exact .inr (Nat.le_refl _)
/-- The same as a step of a region that draws. -/
theorem step_append_k7 {P : Program} {ops : Array Oper} {o : Oper} {a : Act} {w : World} {K : Act → World → Prop} {Q : Exit → Act → World → Prop} {E : Prop} (hgd : o.guard = none) (s x : Operand) (t : TypeId)
    (ho : o.op = .call { callee := .builtin .append, args := #[s, x], argTypes := #[t, t] })
    (base : Nat) (i : TypeInfo) (ht : P.underlying t = some (.slice 65)) (hi : P.info? 65 = some i) (hz : i.zero = some (.agg #[.string ⟨#[]⟩, .int .i64 0, .string ⟨#[]⟩, .slice none 0 0, .bool false, .slice none 0 0, .slice none 0 0])) (hsize : i.size = 7) (hby : i.bytes = 120)
    (v : Value) (n : Nat) (xs : List Value) (hs : a.eval s = v) (hown : w.ownsRow base 65 7 v n xs)
    (g c : Nat) (p : ByteArray × Kc) (hx : a.eval x = .slice (some ⟨g, 0, none⟩) 1 c) (hc : ∀ j u, (pcl p)[j]? = some u → w.cell? ⟨g, j, none⟩ = some u) (hone : ∀ u ∈ pcl p, u.oneCell' = true)
    (hb : n < 1048576) (hbase : base ≤ w.heap.size)
    (h : ∀ v' w', w'.ownsRow base 65 7 v' (n + 1) (xs ++ pcl p) → w.grownBy w' v.ownBlock → (∀ k, v'.ownBlock = some k → v.ownBlock = some k ∨ w.heap.size ≤ k) → K (a.put o.dst v') w') :
    if Region.wanted o (yielded ops a.tmps) = true then Oper.wp P o a w K Q else E := by
  have hw : Region.wanted o (yielded ops a.tmps) = true := by simp [Region.wanted, hgd]
  rw [if_pos hw]
  obtain ⟨v', w', hrun, k1, k2, k3⟩ := run_append_k7 (P := P) w t o.type base i ht hi hz hsize hby v n xs hown g c p hc hone hb hbase
  unfold Oper.wp execOp
  simp only [ho, resolve, invoke, builtin, Sem.run_bind, Sem.run_pure, Result.andThen_ok, List.map_toArray, List.map_cons, List.map_nil, hs, hx, hrun]
  exact h v' w' k1 k2 k3
/-- A kept tree stored into its seven cells. -/
abbrev set7 (w : World) (g o : Nat) (nm : ByteArray) (c : Kc) : World := ((((((w.setCell ⟨g, o, none⟩ (.string nm)).setCell ⟨g, o + 1, none⟩ c.1).setCell ⟨g, o + 2, none⟩ c.2.1).setCell ⟨g, o + 3, none⟩ c.2.2.1).setCell ⟨g, o + 4, none⟩ c.2.2.2.1).setCell ⟨g, o + 5, none⟩ c.2.2.2.2.1).setCell ⟨g, o + 6, none⟩ c.2.2.2.2.2
theorem row_put7 {w : World} {g cap i : Nat} {cs : Array Value} {rs : List (ByteArray × Kc)} (hg : Blk w g 65 cs) (hs : cs.size = cap * 7) (hn : rs.length ≤ cap) (ht : PCs cs rs) (hi : i < rs.length) (nm : ByteArray) (c : Kc) :
    ∃ cs', Blk (set7 w g (i * 7) nm c) g 65 cs' ∧ cs'.size = cap * 7 ∧ PCs cs' (rs.set i (nm, c)) := by
  refine ⟨_, ((((((hg.put _ _).put _ _).put _ _).put _ _).put _ _).put _ _).put _ _, by simpa using hs, ?_⟩
  intro j hj q hq
  rw [List.length_set] at hj
  have b0 : i * 7 < cs.size := by omega
  have b1 : i * 7 + 1 < cs.size := by omega
  have b2 : i * 7 + 2 < cs.size := by omega
  have b3 : i * 7 + 3 < cs.size := by omega
  have b4 : i * 7 + 4 < cs.size := by omega
  have b5 : i * 7 + 5 < cs.size := by omega
  have b6 : i * 7 + 6 < cs.size := by omega
  by_cases e : i = j
  · subst e
    have e1 : (rs.set i (nm, c)).getD i pc0 = (nm, c) := by simp [List.getD, hj]
    rw [e1]
    have : q = 0 ∨ q = 1 ∨ q = 2 ∨ q = 3 ∨ q = 4 ∨ q = 5 ∨ q = 6 := by omega
    rcases this with rfl | rfl | rfl | rfl | rfl | rfl | rfl
    all_goals simp [pcl, kcl, b0, b1, b2, b3, b4, b5, b6]
  · have e1 : (rs.set i (nm, c)).getD j pc0 = rs.getD j pc0 := by simp [List.getD, e]
    rw [e1, ← ht j hj q hq]
    have n0 : ¬ i * 7 = j * 7 + q := by omega
    have n1 : ¬ i * 7 + 1 = j * 7 + q := by omega
    have n2 : ¬ i * 7 + 2 = j * 7 + q := by omega
    have n3 : ¬ i * 7 + 3 = j * 7 + q := by omega
    have n4 : ¬ i * 7 + 4 = j * 7 + q := by omega
    have n5 : ¬ i * 7 + 5 = j * 7 + q := by omega
    have n6 : ¬ i * 7 + 6 = j * 7 + q := by omega
    simp only [Array.getElem?_setIfInBounds, if_neg n0, if_neg n1, if_neg n2, if_neg n3, if_neg n4, if_neg n5, if_neg n6]
theorem set7_far {w : World} {g o b : Nat} {nm : ByteArray} {c : Kc} (h2 : b ≠ g) : (set7 w g o nm c).heap[b]? = w.heap[b]? :=
  ((((((Below.heap_setCell _ ⟨g, o + 6, none⟩ _ _ h2).trans (Below.heap_setCell _ ⟨g, o + 5, none⟩ _ _ h2)).trans (Below.heap_setCell _ ⟨g, o + 4, none⟩ _ _ h2)).trans (Below.heap_setCell _ ⟨g, o + 3, none⟩ _ _ h2)).trans (Below.heap_setCell _ ⟨g, o + 2, none⟩ _ _ h2)).trans (Below.heap_setCell _ ⟨g, o + 1, none⟩ _ _ h2)).trans (Below.heap_setCell _ ⟨g, o, none⟩ _ _ h2)
theorem set7_fr {w w1 : World} {x : Nat → Prop} (h : Fr w w1 x) {g : Nat} (o : Nat) (nm : ByteArray) (c : Kc) (hg : x g ∨ w.heap.size ≤ g) : Fr w (set7 w1 g o nm c) x := ((((((h.set hg _ _).set hg _ _).set hg _ _).set hg _ _).set hg _ _).set hg _ _).set hg _ _
/-- The seven cells of a row's element. -/
theorem row_seven {w : World} {g i : Nat} {cs : Array Value} {rs : List (ByteArray × Kc)} (hg : Blk w g 65 cs) (ht : PCs cs rs) (hi : i < rs.length) {d : ByteArray × Kc} (hd : rs.getD i pc0 = d) :
    w.cell? ⟨g, i * 7, none⟩ = some (.string d.1) ∧ w.cell? ⟨g, i * 7 + 1, none⟩ = some d.2.1 ∧ w.cell? ⟨g, i * 7 + 2, none⟩ = some d.2.2.1 ∧ w.cell? ⟨g, i * 7 + 3, none⟩ = some d.2.2.2.1 ∧ w.cell? ⟨g, i * 7 + 4, none⟩ = some d.2.2.2.2.1 ∧ w.cell? ⟨g, i * 7 + 5, none⟩ = some d.2.2.2.2.2.1 ∧ w.cell? ⟨g, i * 7 + 6, none⟩ = some d.2.2.2.2.2.2 := by
  subst hd
  exact ⟨(hg.cell _).trans (ht i hi 0 (by omega)), (hg.cell _).trans (ht i hi 1 (by omega)), (hg.cell _).trans (ht i hi 2 (by omega)), (hg.cell _).trans (ht i hi 3 (by omega)), (hg.cell _).trans (ht i hi 4 (by omega)), (hg.cell _).trans (ht i hi 5 (by omega)), (hg.cell _).trans (ht i hi 6 (by omega))⟩
section
variable {w : World} {Q B : Nat} {v : Value} {Z : Nat → Prop} {L : Kl}
/-- What is put fits. -/
theorem lput_fits (h : RSt w Q v B Z L) {nm : ByteArray} (hnm : nm.size ≤ 1048576) {t : T} {tw : Value} {R0 : Nat → Prop} (hbt : t.bulk ≤ 1048576) (ht : T.In w R0 t tw) (hbg : big nm t L = false) :
    Rising (lput nm t.cp L) ∧ total (lput nm t.cp L) ≤ 3000 ∧ (lput nm t.cp L).length ≤ 40 ∧ (∀ p ∈ lput nm t.cp L, p.2.bulk ≤ 1048576 ∧ p.1.size ≤ 1048576) := by
  obtain ⟨_, _, hr, _, hn, hb, _⟩ := h
  have hpm := lput_perm nm t.cp L hr
  unfold big at hbg
  rw [Bool.or_eq_false_iff] at hbg
  have h2 := of_decide_eq_false hbg.2
  refine ⟨lput_rising nm t.cp L hr, ?_, ?_, fun p hp => ?_⟩
  · rw [total_perm hpm, total_cons]
    show sz t.cp + total (ldel nm L) ≤ 3000
    rw [T.cp_sz]; omega
  · rw [hpm.length_eq, List.length_cons]
    cases hg : lget nm L with
    | none =>
      rw [ldel_away hg]
      rw [hg] at hbg
      have := hbg.1
      simp at this
      omega
    | some u =>
      have := (ldel_here hr hg).length_eq
      rw [List.length_cons] at this
      omega
  · rcases List.mem_cons.1 (hpm.mem_iff.1 hp) with rfl | hp
    · exact ⟨Nat.le_trans ht.cp_bulk hbt, hnm⟩
    · exact hb p (List.mem_filter.1 hp).1
set_option maxRecDepth 100000 in
set_option maxHeartbeats 1600000 in
theorem rput_no (h : RSt w Q v B Z L) (nm : ByteArray) (hnm : nm.size ≤ 1048576) (t : T) (tw : Value) (R0 : Nat → Prop) (_hbt : t.bulk ≤ 1048576) (ht : T.In w R0 t tw) (hnb : nameB nm = false) :
    Calls Try.prog 27 #[.pointer (some ⟨Q, 0, none⟩), .string nm, tw] w fun e w' => e = .returned (.int .i64 220) ∧ Below w.heap.size w w' := by
  obtain ⟨A1, c1, A2, c2, A3, c3, rfl, _⟩ := ht.form
  have hq := h.2.1
  have HRS := Lib.hid (fun (w' : World) (hb : Below w.heap.size w w') => h.below hb)
  have HIN := Lib.hid (fun (w' : World) (hb : Below w.heap.size w w') => ht.below hb)
  have HNB := Lib.hid (show X.name nm.data.toList = false from hnb)
  clear h ht hq hnb
  go_enter Try.func27, Try.ntmps27
  go_upto_region 1 with (fail)
  obtain ⟨W1, hW1, pt, hb1⟩ := made_blk w #[.int .i64 t.k, .string t.nm, .slice A1 t.ns.length c1, .bool t.ng, .slice A2 t.mg.length c2, .slice A3 t.ks.length c3] 35
  obtain ⟨Bt, hBt⟩ : ∃ b, b = w.heap.size := ⟨_, rfl⟩
  rw [← hW1, ← hBt]
  rw [← hBt] at pt
  have HBT := Lib.hid hBt
  clear hW1 hBt
  obtain ⟨x0, x1, x2, x3, x4, x5⟩ := pt.six
  go_upto_region 2 with (go_at_call 40; refine (isname_r _ nm (Nat.le_trans hnm (by decide))).mono ?_; rintro e w2 ⟨rfl, rfl⟩; rw [HNB.out])
  go_wp2_with fail
  go_ret
  exact ⟨rfl, hb1⟩
set_option maxRecDepth 100000 in
set_option maxHeartbeats 1600000 in
theorem rput_bad (h : RSt w Q v B Z L) (nm : ByteArray) (hnm : nm.size ≤ 1048576) (t : T) (tw : Value) (R0 : Nat → Prop) (hbt : t.bulk ≤ 1048576) (ht : T.In w R0 t tw) (hnb : nameB nm = true) (hc : t.chk ≠ 0) :
    Calls Try.prog 27 #[.pointer (some ⟨Q, 0, none⟩), .string nm, tw] w fun e w' => e = .returned (.int .i64 t.chk) ∧ Below w.heap.size w w' := by
  obtain ⟨A1, c1, A2, c2, A3, c3, rfl, _⟩ := ht.form
  have hq := h.2.1
  have HRS := Lib.hid (fun (w' : World) (hb : Below w.heap.size w w') => h.below hb)
  have HIN := Lib.hid (fun (w' : World) (hb : Below w.heap.size w w') => ht.below hb)
  have HNB := Lib.hid (show X.name nm.data.toList = true from hnb)
  obtain ⟨ch, hch⟩ : ∃ ch, t.chk = ch := ⟨_, rfl⟩
  rw [hch] at hc ⊢
  have HC := Lib.hid hch
  clear h ht hq hnb hch
  go_enter Try.func27, Try.ntmps27
  go_upto_region 1 with (fail)
  obtain ⟨W1, hW1, pt, hb1⟩ := made_blk w #[.int .i64 t.k, .string t.nm, .slice A1 t.ns.length c1, .bool t.ng, .slice A2 t.mg.length c2, .slice A3 t.ks.length c3] 35
  obtain ⟨Bt, hBt⟩ : ∃ b, b = w.heap.size := ⟨_, rfl⟩
  rw [← hW1, ← hBt]
  rw [← hBt] at pt
  have HBT := Lib.hid hBt
  clear hW1 hBt
  obtain ⟨x0, x1, x2, x3, x4, x5⟩ := pt.six
  go_upto_region 2 with (go_at_call 40; refine (isname_r _ nm (Nat.le_trans hnm (by decide))).mono ?_; rintro e w2 ⟨rfl, rfl⟩; rw [HNB.out])
  go_upto_region 5 with (go_at_call 41; refine (rcheck_t t _ R0 _ hbt (HIN.out _ hb1)).mono ?_; rw [HC.out]; rintro e w3 ⟨rfl, hb3⟩)
  have hcd : decide (ch = 0) = false := decide_eq_false hc
  go_wp2_with fail
  go_ret
  exact ⟨rfl, below_on hb1 hb3⟩
set_option maxRecDepth 100000 in
set_option maxHeartbeats 6400000 in
theorem rput_here (h : RSt w Q v B Z L) (nm : ByteArray) (hnm : nm.size ≤ 1048576) (t : T) (tw : Value) (R0 : Nat → Prop) (hbt : t.bulk ≤ 1048576) (ht : T.In w R0 t tw) (hZn : ∀ b, w.heap.size ≤ b → Z b) (hB : B ≤ w.heap.size) (hnb : nameB nm = true) (hc : t.chk = 0) {u : T} (hg : lget nm L = some u) :
    Calls Try.prog 27 #[.pointer (some ⟨Q, 0, none⟩), .string nm, tw] w fun e w' => ∃ v', e = .returned (.int .i64 (if big nm t L = true then 222 else 0)) ∧ RSt w' Q v' B Z (if big nm t L = true then L else lput nm t.cp L) ∧ Fr w w' (fun b => b = Q ∨ v.ownBlock = some b) ∧ (∀ b, v'.ownBlock = some b → v.ownBlock = some b ∨ w.heap.size ≤ b) := by
  obtain ⟨A1, c1, A2, c2, A3, c3, rfl, _⟩ := ht.form
  have hq := h.2.1
  have HRS := Lib.hid (fun (w' : World) (hb : Below w.heap.size w w') => h.below hb)
  have HIN := Lib.hid (fun (w' : World) (hb : Below w.heap.size w w') => ht.below hb)
  have HNB := Lib.hid (show X.name nm.data.toList = true from hnb)
  have HC := Lib.hid hc
  have HPL := Lib.hid (fun (w' : World) (hb : Below w.heap.size w w') => place_r (h.below hb) nm)
  have HQ := Lib.hid (fun (w' : World) (hb : Below w.heap.size w w') => hq.below hb)
  have hnl := h.2.2.2.2.1
  have htl := h.2.2.2.1
  have HR := Lib.hid h
  obtain ⟨A, cc, rfl, hcc, hrow⟩ := h.form
  obtain ⟨n, hL⟩ : ∃ n, L.length = n := ⟨_, rfl⟩
  obtain ⟨p, hp⟩ : ∃ p, plc nm L = p := ⟨_, rfl⟩
  obtain ⟨tl, htt⟩ : ∃ tl, total L = tl := ⟨_, rfl⟩
  obtain ⟨s, hs⟩ : ∃ s, sz t = s := ⟨_, rfl⟩
  have hs3 : s ≤ 3001 := by rw [← hs]; exact Nat.min_le_right _ _
  have hple := plc_le nm L
  rw [hp, hL] at hple
  have HNO := Lib.hid (fun (w' : World) (hb : Below w.heap.size w w') => rnodes_s (HR.out.below hb))
  have HSZ := Lib.hid (fun (w' : World) (hb : Below w.heap.size w w') => rsize_l t w' R0 _ hbt (HIN.out w' hb))
  rw [hL] at hcc hrow hnl HQ
  rw [htt] at htl HNO
  rw [hs] at HSZ
  rw [hp, hg] at HPL
  have HROW := Lib.hid hrow
  have HL := Lib.hid hL
  have HP := Lib.hid hp
  have HT := Lib.hid htt
  have HS := Lib.hid hs

  have hbgd : big nm t L = decide (3000 < s + total (ldel nm L)) := by unfold big; rw [hg, hs]; rfl
  obtain ⟨td, htd⟩ : ∃ td, total (ldel nm L) = td := ⟨_, rfl⟩
  have htot : tl = sz u + td := by rw [← htt, total_perm (ldel_here h.2.2.1 hg), total_cons, htd]
  obtain ⟨su, hsu⟩ : ∃ su, sz u = su := ⟨_, rfl⟩
  rw [hsu] at htot
  have hsu3 : su ≤ 3001 := by rw [← hsu]; exact Nat.min_le_right _ _
  rw [htd] at hbgd
  have HTD := Lib.hid htd
  have HTO := Lib.hid htot
  have HSU := Lib.hid hsu
  have hub : u.bulk ≤ 1048576 := (h.2.2.2.2.2.1 _ (lget_mem hg)).1
  obtain ⟨hplt, hpnm⟩ : p < n ∧ (L.getD p kd).1 = nm := by
    have e := plc_here (nm := nm) h.2.2.1
    rw [hg, hp, hL] at e
    simp only [Option.isSome_some, Bool.true_eq, Bool.and_eq_true, decide_eq_true_eq] at e
    exact e
  have hgu : (L.getD p kd).2 = u := by
    have e := plc_get (nm := nm) (L := L) (by rw [hp, hL]; exact hplt) (by rw [hp]; exact hpnm)
    rw [hg, hp] at e
    injection e with e
    exact e.symm
  have HPN := Lib.hid hpnm
  have HGU := Lib.hid hgu
  clear hpnm hgu htd hsu htot

  obtain ⟨bg, hbg⟩ : ∃ bg, big nm t L = bg := ⟨_, rfl⟩
  have hfit := lput_fits h hnm hbt ht
  rw [hbg] at hbgd hfit ⊢
  have HFIT := Lib.hid hfit
  clear hfit
  clear h ht hq hnb hc hrow hL hp htt hs hbg
  go_enter Try.func27, Try.ntmps27
  go_upto_region 1 with (fail)
  obtain ⟨W1, hW1, pt, hb1⟩ := made_blk w #[.int .i64 t.k, .string t.nm, .slice A1 t.ns.length c1, .bool t.ng, .slice A2 t.mg.length c2, .slice A3 t.ks.length c3] 35
  obtain ⟨Bt, hBt⟩ : ∃ b, b = w.heap.size := ⟨_, rfl⟩
  rw [← hW1, ← hBt]
  rw [← hBt] at pt
  have HBT := Lib.hid hBt
  clear hW1 hBt
  obtain ⟨x0, x1, x2, x3, x4, x5⟩ := pt.six
  go_upto_region 2 with (go_at_call 40; refine (isname_r _ nm (Nat.le_trans hnm (by decide))).mono ?_; rintro e w2 ⟨rfl, rfl⟩; rw [HNB.out])
  go_upto_region 5 with (go_at_call 41; refine (rcheck_t t _ R0 _ hbt (HIN.out _ hb1)).mono ?_; rw [HC.out]; rintro e w3 ⟨rfl, hb3⟩)
  have hp3 := pt.below hb3
  obtain ⟨x0, x1, x2, x3, x4, x5⟩ := hp3.six
  have hb13 := below_on hb1 hb3
  go_upto_region 8 with (go_at_call 42; refine (HPL.out _ hb13).mono ?_; rintro e w4 ⟨rfl, hb4⟩)
  have hp4 := hp3.below hb4
  have hb14 := below_on hb13 hb4
  have q4 : w4.cell? ⟨Q, 0, none⟩ = some (.slice A n cc) := (HQ.out _ hb14).cell 0
  clear x0 x1 x2 x3 x4 x5
  obtain ⟨x0, x1, x2, x3, x4, x5⟩ := hp4.six
  go_upto_region 9 with (fail)
  obtain ⟨m, hm⟩ : ∃ m, tl + s = m := ⟨_, rfl⟩
  go_cut [12] from 15 (fun v12 wd => v12 = .int .i64 (m : Nat) ∧ Below w4.heap.size w4 wd)
  case first =>
    have hw0 : (tl : Int) + (s : Int) = (m : Nat) := by omega
    have hwm : IntKind.i64.wrap (m : Int) = m := by simp [IntKind.wrap, IntKind.bits, IntKind.signed]; omega
    go_region_held (fun w' => w'.cell? ⟨Bt, 0, none⟩ = some (.int .i64 t.k) ∧ w'.cell? ⟨Bt, 1, none⟩ = some (.string t.nm) ∧ w'.cell? ⟨Bt, 2, none⟩ = some (.slice A1 t.ns.length c1) ∧ w'.cell? ⟨Bt, 3, none⟩ = some (.bool t.ng) ∧ w'.cell? ⟨Bt, 4, none⟩ = some (.slice A2 t.mg.length c2) ∧ w'.cell? ⟨Bt, 5, none⟩ = some (.slice A3 t.ks.length c3)) (go_keep) (first
      | (go_at_call 13; refine (HNO.out _ hb14.drew).mono ?_; rintro e w5 ⟨rfl, hbn⟩; have hbx : Below w4.heap.size w4 w5 := below_on (Below.refl w4.heap.size w4).drew hbn; obtain ⟨z0, z1, z2, z3, z4, z5⟩ := (hp4.below hbx).six)
      | (go_at_call 13; refine (HNO.out _ (below_on hb14 hby)).mono ?_; rintro e w6 ⟨rfl, hbn⟩; have hbx : Below w4.heap.size w4 w6 := below_on hby hbn; obtain ⟨z0, z1, z2, z3, z4, z5⟩ := (hp4.below hbx).six)
      | (go_at_call 24; refine (HSZ.out _ hb14.drew).mono ?_; rintro e w5 ⟨rfl, hbn⟩; have hby : Below w4.heap.size w4 w5 := below_on (Below.refl w4.heap.size w4).drew hbn; obtain ⟨z0, z1, z2, z3, z4, z5⟩ := (hp4.below hby).six)
      | (go_at_call 24; refine (HSZ.out _ (below_on hb14 hbx)).mono ?_; rintro e w6 ⟨rfl, hbn⟩; have hby : Below w4.heap.size w4 w6 := below_on hbx hbn; obtain ⟨z0, z1, z2, z3, z4, z5⟩ := (hp4.below hby).six))
    all_goals
      go_wp2_with fail
      go_meet
      exact ⟨by first | rfl | rw [hwm], by first | exact hbx | exact hby⟩
  obtain ⟨rfl, hb5⟩ := hcut
  rename World => w5
  have hp5 := hp4.below hb5
  have hb15 := below_on hb14 hb5
  have q5 : w5.cell? ⟨Q, 0, none⟩ = some (.slice A n cc) := (HQ.out _ hb15).cell 0
  clear x0 x1 x2 x3 x4 x5 q4
  obtain ⟨x0, x1, x2, x3, x4, x5⟩ := hp5.six

  obtain ⟨g, rfl, hgB, hgl, rs0, hrs⟩ := HROW.out (by omega)
  obtain ⟨_, c0, hkid⟩ := hrs p hplt
  rw [HGU.out] at hkid
  obtain ⟨B1, e1, B2, e2, B3, e3, h6, hkin⟩ := hkid.below hb15
  have HSU2 := Lib.hid (rsize_l u w5 _ _ hub hkin)
  rw [HSU.out] at HSU2
  obtain ⟨z0, z1, z2, z3, z4, z5⟩ := h6
  clear hkin hkid hrs c0
  have hi0 : (0 : Int) ≤ p := by omega
  have hi1 : (p : Int) < n := by omega
  obtain ⟨r, hr⟩ : ∃ r, s + td = r := ⟨_, rfl⟩
  rw [hr] at hbgd
  have hw2 : (m : Int) - (su : Int) = (r : Nat) := by have := HTO.out; omega
  go_upto_region 13 with (go_at_call 24; refine HSU2.out.mono ?_; rintro e w6 ⟨rfl, hb6⟩)
  have hb16 := below_on hb15 hb6
  have hd1 : ¬ 40 < n := by omega
  cases bg with
  | true =>
    have hd2 : 3000 < r := of_decide_eq_true hbgd.symm
    clear hbgd
    go_wp2_with fail
    go_ret
    first
      | exact ⟨_, rfl, HR.out.below hb16, (Fr.refl w _).below hb16, fun b hb => .inl hb⟩
      | exact ⟨rfl, _, HR.out.below hb16, (Fr.refl w _).below hb16, fun b hb => .inl hb⟩
  | false =>
    have hd2 : ¬ 3000 < r := of_decide_eq_false hbgd.symm
    clear hbgd
    have hp6 := hp5.below hb6
    have q6 : w6.cell? ⟨Q, 0, none⟩ = some (.slice (some ⟨g, 0, none⟩) n cc) := (HQ.out _ hb16).cell 0
    clear x0 x1 x2 x3 x4 x5 q5 z0 z1 z2 z3 z4 z5
    obtain ⟨x0, x1, x2, x3, x4, x5⟩ := hp6.six
    go_upto_region 16 with (go_at_call 43; refine (rcopy_t _ t _ R0 _ hbt (Nat.le_refl _) (HIN.out _ hb16)).mono ?_; rintro e w7 ⟨k, rfl, hNew, hb7⟩; obtain ⟨q, hq⟩ : ∃ q, T.cp t = q := ⟨_, rfl⟩; rw [hq] at hNew; have HCP := Lib.hid hq; clear hq; have HNEW := Lib.hid hNew; obtain ⟨F1, f1, F2, f2, F3, f3, rfl⟩ := hNew.form; clear hNew)
    obtain ⟨W8, hW8, pk, hb8⟩ := made_blk w7 #[.string nm, .int .i64 q.k, .string q.nm, .slice F1 q.ns.length f1, .bool q.ng, .slice F2 q.mg.length f2, .slice F3 q.ks.length f3] 65
    obtain ⟨Bk, hBk⟩ : ∃ b, b = w7.heap.size := ⟨_, rfl⟩
    rw [← hW8, ← hBk]
    rw [← hBk] at pk
    have hb17 := below_on hb16 hb7
    have hb18 := below_on hb17 hb8
    have q8 : W8.cell? ⟨Q, 0, none⟩ = some (.slice (some ⟨g, 0, none⟩) n cc) := (HQ.out _ hb18).cell 0
    have k0 := pk.cell 0
    have k1 := pk.cell 1
    have k2 := pk.cell 2
    have k3 := pk.cell 3
    have k4 := pk.cell 4
    have k5 := pk.cell 5
    have k6 := pk.cell 6
    simp only [List.getElem?_toArray, List.getElem?_cons_zero, List.getElem?_cons_succ] at k0 k1 k2 k3 k4 k5 k6
    have HBK := Lib.hid hBk
    clear hW8 hBk
    obtain ⟨rs, hpts, hown⟩ := HR.out.pts
    rw [HL.out] at hown
    have hrl := hpts.1.trans HL.out
    rcases row_open hrl hown with ⟨h0, _⟩ | ⟨g', cap, cs, e, _, hgb, hnc, hcm, hcs, hpcs⟩
    · cases h0
    injection e with ea _ ec
    injection ea with ea
    injection ea with ea
    subst ea; subst ec
    have hgb8 := hgb.below hb18
    obtain ⟨d, hd⟩ : ∃ d, rs.getD p pc0 = d := ⟨_, rfl⟩
    obtain ⟨y0, y1, y2, y3, y4, y5, y6⟩ := row_seven hgb8 hpcs (by omega) hd
    have f0 := hgb8.free (p * 7)
    have f1' := hgb8.free (p * 7 + 1)
    have f2' := hgb8.free (p * 7 + 2)
    have f3' := hgb8.free (p * 7 + 3)
    have f4 := hgb8.free (p * 7 + 4)
    have f5 := hgb8.free (p * 7 + 5)
    have f6 := hgb8.free (p * 7 + 6)
    have HPTS := Lib.hid hpts
    clear hd hown hpts q6 x0 x1 x2 x3 x4 x5
    go_upto_region 17 with (fail)
    go_region
    all_goals
      go_wp2_with fail
      go_ret
      obtain ⟨c, hc⟩ : ∃ c, c = tc q.k q.nm F1 q.ns.length f1 q.ng F2 q.mg.length f2 F3 q.ks.length f3 := ⟨_, rfl⟩
      obtain ⟨W9, hW9⟩ : ∃ W, W = set7 W8 g (p * 7) nm c := ⟨_, rfl⟩
      obtain ⟨cs', hb', hs', hp'⟩ := row_put7 hgb8 hcs (by omega) hpcs (show p < rs.length by omega) nm c
      have hQB := HR.out.1
      have hFW : Fr w W9.drew (fun b => b = Q ∨ (Value.slice (some ⟨g, 0, none⟩) L.length cc).ownBlock = some b) := by
        rw [hW9]
        exact (set7_fr ((Fr.refl w _).below hb18) _ _ _ (.inl (.inr rfl))).drew
      have hput : lput nm q L = L.set p (nm, q) := by rw [← HP.out]; exact lput_here q (by rw [HP.out, HL.out]; exact hplt) (by rw [HP.out]; exact HPN.out)
      have hf := HFIT.out (by trivial)
      rw [HCP.out, hput] at hf
      have hsz7 : w.heap.size ≤ w6.heap.size := hb16.size
      have hin : T.In W9.drew (fun b => B ≤ b ∧ (Value.slice (some ⟨g, 0, none⟩) n cc).ownBlock ≠ some b ∧ Z b) q (kv c) := by
        refine T.New.In q w6.heap.size w7.heap.size c _ (T.New.keep (w := w7) _ _ _ _ (by rw [hc]; exact HNEW.out) (fun b h1 h2 => ?_)) (fun b h1 h2 => ⟨by omega, fun e => ?_, hZn b (by omega)⟩)
        · show W9.heap[b]? = _
          rw [hW9]
          exact (set7_far (by omega)).trans (hb8.block b h2)
        · have e : some g = some b := e
          injection e with e
          omega
      have hpt := (HPTS.out.keep (R' := fun b => B ≤ b ∧ (Value.slice (some ⟨g, 0, none⟩) n cc).ownBlock ≠ some b ∧ Z b) hFW (fun b hb hR => ⟨hR, fun e => e.elim (fun e => by have := hR.1; omega) (fun e => hR.2.1 e)⟩)).set p (p := (nm, c)) (q := (nm, q)) rfl hin
      have hbq : Blk W9.drew Q 41 #[.slice (some ⟨g, 0, none⟩) n cc] := by
        show W9.heap[Q]? = _
        rw [hW9]
        exact (set7_far (by omega)).trans (HQ.out _ hb18)
      have hRS : RSt W9.drew Q (.slice (some ⟨g, 0, none⟩) n cc) B Z (L.set p (nm, q)) := by
        refine RSt.of hQB hbq hf.1 hf.2.1 hf.2.2.1 hf.2.2.2 hpt ?_
        rw [List.length_set, HL.out]
        rw [← hW9] at hb'
        exact row_mk (by rw [List.length_set]; exact hrl) hgB hb' hnc hcm hs' hp'
      rw [hW9, hc] at hRS hFW
      rw [HCP.out, hput]
      exact ⟨rfl, _, hRS, hFW, fun b e => .inl e⟩
end
end Go.Proofs.Ytmncamnlmpajbaa

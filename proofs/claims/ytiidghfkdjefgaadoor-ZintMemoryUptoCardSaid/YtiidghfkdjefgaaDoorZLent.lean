/-
  riddlelaw02: lent, stays: contracts.
-/
import Derived.Test.YtiidghfkdjefgaaDoorZRef4
import Derived.Deep.Cut
import Derived.BigQuiet
import Derived.StillTailTactics
namespace Go.Proofs.YtiidghfkdjefgaaDoor
open Go.RowKit

/-- The same where there is room: in place. -/
theorem wpList_append_fit {P : Program} (w : World) {ops : Array Oper} {rest : List Oper} {o : Oper} {a : Act} {Q : Exit → Act → World → Prop} (hgd : o.guard = none) (s x : Operand) (t : TypeId)
    (ho : o.op = .call { callee := .builtin .append, args := #[s, x], argTypes := #[t, t] })
    (base : Nat) (i : TypeInfo) (ht : P.underlying t = some (.slice 65)) (hi : P.info? 65 = some i) (hz : i.zero = some (.int .u32 0)) (hsize : i.size = 1) (hby : i.bytes = 4)
    (g0 c0 n : Nat) (l : List Nat) (hs : a.eval s = .slice (some ⟨g0, 0, none⟩) n c0) (hown : Own w base g0 n c0 l)
    (A : Option Addr) (m c : Nat) (r : List Nat) (hx : a.eval x = .slice A m c) (hr : r.length = m) (hlim : N.Lim r) (hnews : 0 < m → ∃ ad, A = some ad ∧ ∀ j u, (lv r)[j]? = some u → w.cell? (ad.add j) = some u)
    (hroom : n + m ≤ c0) (hb : n + m ≤ 35184372088832) (hbase : base ≤ w.heap.size) (k : Nat) (hk : n + m = k) (ys : List Nat) (hys : l ++ r = ys)
    (h : ∀ w', Own w' base g0 k c0 ys → w.grownBy w' (some g0) → wpList P ops Q rest (a.put o.dst (.slice (some ⟨g0, 0, none⟩) k c0)) w') : wpList P ops Q (o :: rest) a w := by
  subst hk
  subst hys
  refine wpList_plain hgd fun K hK => ?_
  have hlr : (lv r).length = m := by rw [lv_length, hr]
  have hbytes : (n + m) * 4 ≤ 140737488355328 := by omega
  obtain ⟨v', w', hrun, h2, h3, h4⟩ := run_append_src (P := P) w base t o.type 65 i (.int .u32 0) 1 4 ht hi hz hsize hby rfl (by omega) _ n (lv l) hown.own A m c (lv r) (by omega) hnews (lv_oneCell _) (by unfold maxLen; omega) hbytes hbase
  have e2 : lv l ++ lv r = lv (l ++ r) := by simp [lv]
  rw [e2] at h2
  rcases h2.2 with ⟨hv0, _⟩ | ⟨g, cap, cur, rfl, hg1, hg2, hg3, hg4, hg5, hg6⟩
  · have := (h4.1 hv0).1
    cases this
  have hfull : (g = g0 ∧ cap = c0) ∧ Full w' g cap := by
    obtain ⟨ocap, ocur, oe, og2, og3, og5⟩ : ∃ cap cur, c0 = cap ∧ w.heap[g0]? = some (.cells cur 65 (0, 0)) ∧ n ≤ cap ∧ cur.size = cap * 1 := by
      rcases hown.own.2 with ⟨e, _⟩ | ⟨g', cap', cur', e, a1, a2, a3, a4, a5, a6⟩
      · cases e
      · injection e with e1 e2 e3
        injection e1 with e1; injection e1 with e1
        subst e1; subst e3
        exact ⟨_, cur', rfl, a2, a3, a5⟩
    subst oe
    have hints := ints_of_full og2 hown.full (by omega)
    by_cases hm : m = 0
    · subst hm
      have e0 : r = [] := List.eq_nil_of_length_eq_zero hr
      subst e0
      cases A with
      | none =>
        have hrn : (Builtin.append_ #[t, t] o.type #[.slice (some ⟨g0, 0, none⟩) n c0, .slice none 0 c]).run P w = .ok (.slice (some ⟨g0, 0, none⟩) n c0) w := by
          simp [Builtin.append_, run_underlying ht, sizeOf, typeInfo, hi, Builtin.lenOf, Builtin.firstCells, og3, storeCells]
        rw [hrn] at hrun
        injection hrun with r1 r2
        injection r1 with r1 _ r3
        injection r1 with r1; injection r1 with r1
        subst r2; subst r3; subst r1
        exact ⟨⟨rfl, rfl⟩, hown.full⟩
      | some ad =>
        have hrn := run_append_room (P := P) w t o.type 65 i ht hi g0 n c0 ocur og2 ad 0 c [] (by simp) (by simp) (by simp) og3 (by rw [hsize, og5]; simp; omega)
        have hrun2 : (Builtin.append_ #[t, t] o.type #[.slice (some ⟨g0, 0, none⟩) n c0, .slice (some ad) 0 c]).run P w = .ok (.slice (some ⟨g, 0, none⟩) (n + 0) cap) w' := hrun
        rw [hrn] at hrun2
        injection hrun2 with r1 r2
        injection r1 with r1 _ r3
        injection r1 with r1; injection r1 with r1
        subst r3; subst r1
        rw [← r2]
        refine ⟨⟨rfl, rfl⟩, ?_⟩
        refine full_of_ints (setRow_heap _ _ _ _ _ _ og2) (fun u hu => ?_) (by simp; omega)
        simp only [List.append_nil, List.mem_append] at hu
        exact hints u (by rcases hu with hu | hu; exact List.mem_of_mem_take hu; exact List.mem_of_mem_drop hu)
    · obtain ⟨ad, rfl, hcl⟩ := hnews (by omega)
      have hrn := run_append_room (P := P) w t o.type 65 i ht hi g0 n c0 ocur og2 ad m c (lv r) (by rw [hsize]; omega) hcl (lv_oneCell _) hroom (by rw [hsize, og5, hlr]; omega)
      rw [hrn] at hrun
      injection hrun with r1 r2
      injection r1 with r1 _ r3
      injection r1 with r1; injection r1 with r1
      subst r3; subst r1
      rw [← r2]
      refine ⟨⟨rfl, rfl⟩, ?_⟩
      refine full_of_ints (setRow_heap _ _ _ _ _ _ og2) (fun u hu => ?_) (by simp [hlr]; omega)
      simp only [List.mem_append] at hu
      rcases hu with (hu | hu) | hu
      · exact hints u (List.mem_of_mem_take hu)
      · exact ints_lv r u hu
      · exact hints u (List.mem_of_mem_drop hu)
  unfold Oper.wp execOp
  simp only [ho, resolve, invoke, builtin, Sem.run_bind, Sem.run_pure, Result.andThen_ok, List.map_toArray, List.map_cons, List.map_nil, hs, hx, hrun]
  obtain ⟨⟨rfl, rfl⟩, hfull⟩ := hfull
  exact hK _ _ (h w' ⟨h2, hown.lim.app hlim, hfull⟩ h3)

theorem gb_on {w0 w w2 : World} {B g : Nat} (h : Below B w0 w) (hg : w.grownBy w2 (some g)) (hB : B ≤ g) (hs : B ≤ w0.heap.size) : Below B w0 w2 :=
  ⟨hg.os.trans h.os, hg.tape.trans h.tape, hg.output.trans h.output, Nat.le_trans h.size hg.size, fun i hi => (hg.block i (by have := h.size; omega) (by intro e; injection e; omega)).trans (h.block i hi)⟩
theorem gb_pair {w w2 : World} {b g : Nat} {t : TypeId} {v0 v1 : Value} (h : Pair w b t v0 v1) (hg : w.grownBy w2 (some g)) (hne : b ≠ g) : Pair w2 b t v0 v1 :=
  (hg.block b h.lt (by intro e; injection e; omega)).trans h
theorem Pair.far1 {w : World} {b g k : Nat} {t : TypeId} {v0 v1 : Value} (h : Pair w b t v0 v1) (hne : b ≠ g) (u : Value) : Pair (w.setCell ⟨g, k, none⟩ u) b t v0 v1 :=
  (Below.heap_setCell w ⟨g, k, none⟩ u b hne).trans h
theorem lent_sl {w : World} {B g n : Nat} {l : List Nat} (ho : Own w B g n (n + 2) l) : Sl ((w.setCell ⟨g, n, none⟩ (.int .u32 77)).setCell ⟨g, n + 1, none⟩ (.int .u32 78)) (some ⟨g, 0, none⟩) (n + 2) (n + 2) (l ++ [77, 78]) := by
  have hlen := ho.len
  refine ⟨by simp [hlen], Nat.le_refl _, ho.lim.app (N.Lim.cons (by omega) (N.Lim.cons (by omega) N.Lim.nil)), fun _ => ⟨g, 0, rfl, fun k hk => ?_⟩⟩
  rw [Nat.zero_add]
  obtain ⟨y1, h1⟩ := ho.full n (by omega)
  obtain ⟨y2, h2⟩ := ho.full (n + 1) (by omega)
  rcases (show k < n ∨ k = n ∨ k = n + 1 by omega) with h | rfl | rfl
  · rw [World.cell?_setCell_other _ _ _ _ (fun e => by injection e with _ e; omega), World.cell?_setCell_other _ _ _ _ (fun e => by injection e with _ e; omega), ho.cell k h, N.dg_append_left _ _ _ (by omega)]
  · rw [World.cell?_setCell_other _ _ _ _ (fun e => by injection e with _ e; omega), World.cell?_setCell_same _ _ _ h1, N.dg_append_right _ _ _ (by omega), hlen, Nat.sub_self]; rfl
  · rw [World.cell?_setCell_same _ _ _ ((World.cell?_setCell_other _ _ _ _ (fun e => by injection e with _ e; omega)).trans h2), N.dg_append_right _ _ _ (by omega), hlen, show n + 1 - n = 1 by omega]; rfl
theorem Sl.news2 {w : World} {A : Option Addr} {n c : Nat} {l : List Nat} (h : Sl w A n c l) : 0 < n → ∃ ad, A = some ad ∧ ∀ j u, (lv l)[j]? = some u → w.cell? (ad.add j) = some u := fun hn => by
  obtain ⟨b, o, e, hc⟩ := h.cells hn
  refine ⟨_, e, fun j u hu => ?_⟩
  have hj : j < l.length := by have := (List.getElem?_eq_some_iff.1 hu).1; rwa [lv_length] at this
  rw [lv_get l j hj] at hu
  injection hu with hu
  subst hu
  rw [Addr.add_lit]
  exact hc j (by have := h.len; omega)
/-- 'make([]uint32, 0, n)': room for n limbs, none of them taken. -/
theorem wpList_make_room {P : Program} (w : World) {ops : Array Oper} {rest : List Oper} {o : Oper} {a : Act} {Q : Exit → Act → World → Prop}
    (hg : o.guard = none) (l c : Operand) (t : TypeId) (hop : o.op = Op.makeSlice t l c) (i : TypeInfo) (h1 : P.underlying t = some (.slice 65)) (h2 : P.info? 65 = some i) (h3 : i.zero = some (.int .u32 0)) (h4 : i.size = 1) (h5 : i.bytes = 4)
    (kl kc : IntKind) (C : Int) (n : Nat) (hl : a.eval l = .int kl 0) (hc : a.eval c = .int kc C) (hC : C = (n : Int)) (b2 : n ≤ 70368744177664)
    (hK : ∀ w', Own w' w.heap.size w.heap.size 0 n [] → Below w.heap.size w w' → wpList P ops Q rest (a.put o.dst (.slice (some ⟨w.heap.size, 0, none⟩) 0 n)) w') :
    wpList P ops Q (o :: rest) a w := by
  refine wpList_plain hg fun K hK' => ?_
  have hb' : (i.bytes : Int) * (n : Int) ≤ 281474976710656 := by rw [h5]; omega
  have hr := run_make (P := P) w t 65 i (.int .u32 0) h1 h2 h3 kl kc 0 n (Int.le_refl _) (by omega) hb' (by omega)
  simp only [Int.toNat_zero, Int.toNat_natCast, h4] at hr
  subst hC
  have ho := World.ownsRow_made (e := 65) (base := w.heap.size) (size := 1) w _ n (Nat.le_refl _) (by unfold maxLen; omega) (size_madeCells (Value.cells (.int .u32 0)) (n * 1))
  have hgb := World.grownBy_alloc w (.cells (madeCells (Value.cells (.int .u32 0)) (n * 1)) 65) none
  have hfull : Full (w.alloc (.cells (madeCells (Value.cells (.int .u32 0)) (n * 1)) 65)) w.heap.size n := by
    refine full_of_ints (heap_alloc_new w _) (fun u hu => ?_) (by rw [size_madeCells]; omega)
    rw [toList_made] at hu
    exact ⟨0, (List.mem_replicate.1 hu).2⟩
  rw [Nat.mul_one] at ho hfull
  unfold Oper.wp
  simp [execOp, hop, hl, hc, hr, Result.andThen]
  exact hK' _ _ (hK _ ⟨ho, N.Lim.nil, hfull⟩ (below_alloc1 _ _))
set_option maxRecDepth 100000 in
set_option maxHeartbeats 4000000 in
theorem lent_l {w : World} {v : Value} {K : Nat} {s : Bool} {l : List Nat} (h : IRaw w v K s l) (hK : K ≤ 17592186044416) :
    Calls Tryd.prog 44 #[v] w fun e w' => ∃ g n, e = .returned (.agg #[.bool s, .slice (some ⟨g, 0, none⟩) n (n + 2)]) ∧ (l.length = n ∧ n ≤ K ∧ w.heap.size ≤ g) ∧ Sl w' (some ⟨g, 0, none⟩) (n + 2) (n + 2) (l ++ [77, 78]) ∧ Below w.heap.size w w' := by
  obtain ⟨i0, hi, hz0, hz1, hz2⟩ := info_parts info_u32
  obtain ⟨A, n, c, rfl, hp, hs, hn⟩ := h
  obtain ⟨W, hW, p0, p2, hsz, hbw⟩ := enter2r w 24 (.bool s) (.slice A n c) (.bool false) (.slice none 0 0)
  have hlen := hs.len
  have HLEN := Lib.hid hlen
  have HW := Lib.hid hW
  have hsW := hs.below hbw
  clear hW hlen hs
  go_enter Tryd.func44, Tryd.ntmps44
  go_upto_region 1 with (fail)
  rw [← HW.out]
  obtain ⟨_, _, c00, c01⟩ := p0.facts
  go_wp2_with (first
    | (at_make; refine wpList_make_room _ rfl (.const (.int .i64 0)) (.tmp 8) 22 rfl i0 Tryd.underlying22 hi hz0 hz1 hz2 .i64 .i64 _ (n + 2) rfl rfl (by omega) (by omega) ?_; intro w1 ho1 hb1; replace p0 := p0.below hb1; replace p2 := p2.below hb1; replace hsW := hsW.below hb1; replace hbw := below_on hbw hb1; have hsz1 := hb1.size; rw [hsz] at ho1 hsz1; clear hb1 c00 c01; obtain ⟨_, _, c00, c01⟩ := p0.facts)
    | (at_builtin; refine wpList_append_fit _ rfl (.tmp 10) (.tmp 12) 22 rfl (w.heap.size + 2) i0 Tryd.underlying22 hi hz0 hz1 hz2 _ (n + 2) 0 [] rfl ho1 A n c l rfl HLEN.out hsW.lim hsW.news2 (by omega) (by omega) hsz1 n (by omega) l rfl ?_; intro w2 ho2 hg2; have hb2 := gb_on hbw hg2 (by omega) (Nat.le_refl _); replace p0 := gb_pair p0 hg2 (by omega); replace p2 := gb_pair p2 hg2 (by omega); clear c00 c01 hbw hsW ho1; obtain ⟨_, _, c00, c01⟩ := p0.facts; obtain ⟨z1, hcn⟩ := ho2.full n (by omega); obtain ⟨z2, hcn1⟩ := ho2.full (n + 1) (by omega); have hf1 := ho2.free n; have hf2 := ho2.free (n + 1); obtain ⟨f20, f21, c20, c21⟩ := p2.facts))
  have p3 := (p2.far1 (k := n) (show w.heap.size + 1 ≠ w.heap.size + 2 by omega) (.int .u32 77)).far1 (k := n + 1) (show w.heap.size + 1 ≠ w.heap.size + 2 by omega) (.int .u32 78)
  refine bodyPost_ret (results_cell_row rfl _ _ _ _ _ _ _ rfl (p3.set _ _) Tryd.underlying24 rfl sizeInt) rfl ?_
  exact ⟨_, n, rfl, ⟨HLEN.out, hn, by omega⟩, (lent_sl ho2).pair p3 _ _, below_pair ((hb2.setCell (by show w.heap.size ≤ w.heap.size + 2; omega) _).setCell (by show w.heap.size ≤ w.heap.size + 2; omega) _) (by omega) _ _⟩
/-- A lent number, as it was: its list and the two marks behind it. -/
def Lnt (w : World) (g n : Nat) (l : List Nat) : Prop := Sl w (some ⟨g, 0, none⟩) (n + 2) (n + 2) (l ++ [77, 78])
set_option maxRecDepth 100000 in
set_option maxHeartbeats 4000000 in
theorem stays_l {w : World} {b : Value} {K g n : Nat} {s : Bool} {l : List Nat} (ha : Lnt w g n l) (hb : IRaw w b K s l) (hln : l.length = n) (hK : K ≤ 17592186044416) (hn : n ≤ K) :
    Calls Tryd.prog 47 #[.agg #[.bool s, .slice (some ⟨g, 0, none⟩) n (n + 2)], b] w fun e w' => e = .returned (.bool true) ∧ Below w.heap.size w w' := by
  obtain ⟨A, n', c, rfl, hp, hs, _⟩ := hb
  obtain rfl : n' = n := by rw [← hs.len, hln]
  obtain ⟨W, hW, p0, p1, hsz, hbw⟩ := enter2r w 24 (.bool s) (.slice (some ⟨g, 0, none⟩) n' (n' + 2)) (.bool s) (.slice A n' c)
  have ha' : Sl W (some ⟨g, 0, none⟩) (n' + 2) (n' + 2) (l ++ [77, 78]) := Sl.below ha hbw
  have hs' := hs.below hbw
  have HW := Lib.hid hW
  have HLN := Lib.hid hln
  have t0 : ((n' : Int) != n') = false := by simp
  have tb : (s != s) = false := by simp
  clear hW hsz ha hs hln
  go_enter Tryd.func47, Tryd.ntmps47
  go_upto_region 1 with (fail)
  rw [← HW.out]
  clear HW
  obtain ⟨_, _, c00, c01⟩ := p0.facts
  obtain ⟨_, _, c10, c11⟩ := p1.facts
  go_wp2_with fail
  clear c00 c01 c10 c11
  go_loopg [5] n' (fun gk v5 wr => ∃ k : Nat, gk + k = n' ∧ v5 = .int .i64 (k : Nat) ∧ Pair wr w.heap.size 24 (.bool s) (.slice (some ⟨g, 0, none⟩) n' (n' + 2)) ∧ Pair wr (w.heap.size + 1) 24 (.bool s) (.slice A n' c) ∧ Sl wr (some ⟨g, 0, none⟩) (n' + 2) (n' + 2) (l ++ [77, 78]) ∧ Sl wr A n' c l ∧ Below w.heap.size w wr)
  case atStart => exact ⟨0, rfl, rfl, p0, p1, ha', hs', hbw⟩
  case round =>
    clear p0 p1 ha' hs' hbw
    obtain ⟨k, hk, rfl, p0, p1, ha, hs, hbw⟩ := hrel
    obtain ⟨_, _, c00, c01⟩ := p0.facts
    obtain ⟨_, _, c10, c11⟩ := p1.facts
    obtain ⟨b1, o1, e1, hc1⟩ := ha.cells (by omega)
    injection e1 with e1; injection e1 with e1 e2 _
    subst e1; subst e2
    by_cases hkn : k < n'
    · obtain ⟨b2, o2, rfl, hc2⟩ := hs.cells (by omega)
      have h1 := hc1 k (by omega)
      have h2 := hc2 k hkn
      rw [Nat.zero_add, N.dg_append_left _ _ _ (by rw [HLN.out]; exact hkn)] at h1
      have h0 : (0 : Int) ≤ k := by omega
      have hkn' : (k : Int) < n' := by omega
      have t1 : ((N.dg l k : Int) != (N.dg l k : Int)) = false := by simp
      have HC1 := Lib.hid hc1
      clear hc1 hc2
      go_wp2_with fail
      go_quiet (fail)
      go_wp2_with fail
      go_roundg (gk - 1)
      case measure => omega
      case rel => exact ⟨k + 1, by omega, by go_num, p0, p1, ha.drewN _, hs.drewN _, below_drewN hbw _⟩
    · obtain rfl : k = n' := by omega
      have h1 := hc1 k (by omega)
      have h2 := hc1 (k + 1) (by omega)
      rw [Nat.zero_add, N.dg_append_right _ _ _ (by rw [HLN.out]; exact Nat.le_refl _), HLN.out, Nat.sub_self] at h1
      rw [Nat.zero_add, N.dg_append_right _ _ _ (by rw [HLN.out]; omega), HLN.out, show k + 1 - k = 1 by omega] at h2
      have h1' : wr.cell? ⟨g, k, none⟩ = some (.int .u32 77) := h1
      have h2' : wr.cell? ⟨g, k + 1, none⟩ = some (.int .u32 78) := h2
      clear h1 h2 hc1
      go_wp2_with fail
      go_ret
      exact ⟨rfl, hbw⟩
theorem Lnt.below {w w' : World} {g n : Nat} {l : List Nat} (h : Lnt w g n l) (hb : Below w.heap.size w w') : Lnt w' g n l := Sl.below h hb
theorem lnt_iv {w : World} {g m K : Nat} {s : Bool} {l : List Nat} (h : Lnt w g m l) (hl : l.length = m) (hm : m ≤ K) : IV w (.agg #[.bool s, .slice (some ⟨g, 0, none⟩) m (m + 2)]) K (sgn s (N.nv l)) := by
  have h1 := Sl.take h (m := m) (by omega)
  have e : (l ++ [77, 78]).take m = l := by rw [List.take_append_of_le_length (by omega), List.take_of_length_le (by omega)]
  rw [e] at h1
  exact ⟨s, _, ⟨_, rfl, ⟨_, m, m + 2, l, rfl, Pl.any _, ⟨h1.len, by omega, h1.lim, h1.cells⟩, rfl, hm⟩⟩, rfl⟩
end Go.Proofs.YtiidghfkdjefgaaDoor

/-
  l: the parts YRSort YSameN YSame2.
-/
import Derived.Test.YthiadenmljbdaaaGreatDoorB32l
import Derived.BigQuiet
import Derived.BigRegion
import Derived.RegionTactic
import Derived.Test.YthiadenmljbdaaaGreatDoorB12l
import Derived.Test.YthiadenmljbdaaaGreatDoorB31l
import Derived.Deep.RegionHeld3
namespace Go.Proofs.YthiadenmljbdaaaGreatDoor
section
open Go.RowKit
abbrev sE : ByteArray := ⟨#[]⟩
def swapL (L : List ByteArray) (k : Nat) : List ByteArray := L.take (k - 1) ++ L.getD k sE :: L.getD (k - 1) sE :: L.drop (k + 1)
theorem swapL_len {L : List ByteArray} {k : Nat} (h0 : 0 < k) (h : k < L.length) : (swapL L k).length = L.length := by simp [swapL]; omega
theorem swapL_set {L : List ByteArray} {k : Nat} (h0 : 0 < k) (h : k < L.length) : (L.set k (L.getD (k - 1) sE)).set (k - 1) (L.getD k sE) = swapL L k := by
 apply List.ext_getElem?
 intro j
 simp only [swapL, List.getElem?_set, List.length_set, List.getElem?_append, List.length_take, List.getElem?_take, List.getElem?_cons, List.getElem?_drop]
 grind
theorem swapL_perm {L : List ByteArray} {k : Nat} (h0 : 0 < k) (h : k < L.length) : (swapL L k).Perm L := by
 have e : L = L.take (k - 1) ++ L.getD (k - 1) sE :: L.getD k sE :: L.drop (k + 1) := by
  have e1 : L.drop (k - 1) = L.getD (k - 1) sE :: L.drop k := by
   rw [List.drop_eq_getElem_cons (show k - 1 < L.length by omega), show k - 1 + 1 = k by omega]
   simp [List.getD, show k - 1 < L.length by omega]
  have e2 : L.drop k = L.getD k sE :: L.drop (k + 1) := by
   rw [List.drop_eq_getElem_cons h]
   simp [List.getD, h]
  rw [e2] at e1
  rw [← e1, List.take_append_drop]
 have h3 : (swapL L k).Perm (L.take (k - 1) ++ L.getD (k - 1) sE :: L.getD k sE :: L.drop (k + 1)) := List.Perm.append_left _ (List.Perm.swap _ _ _)
 rw [← e] at h3
 exact h3
theorem swapL_get {L : List ByteArray} {k : Nat} (h0 : 0 < k) (h : k < L.length) (j : Nat) (_ : j < L.length) : (swapL L k).getD j sE = if j = k - 1 then L.getD k sE else if j = k then L.getD (k - 1) sE else L.getD j sE := by
 rw [← swapL_set h0 h]
 simp only [List.getD_eq_getElem?_getD, List.getElem?_set, List.length_set]
 grind
def leS (a b : ByteArray) : Prop := a.data.toList ≤ b.data.toList
theorem leS.trans {a b c : ByteArray} (h : leS a b) (k : leS b c) : leS a c := List.le_trans h k
theorem bl_le : ∀ (x y : List UInt8), (Op.bytesLess x y = true → x ≤ y) ∧ (Op.bytesLess x y = false → y ≤ x)
 | [], y => ⟨fun _ => List.nil_le y, fun h => by
     cases y with
     | nil => exact List.le_refl _
     | cons b y => simp [Op.bytesLess] at h⟩
 | a :: x, [] => ⟨fun h => by simp [Op.bytesLess] at h, fun _ => List.nil_le _⟩
 | a :: x, b :: y => by
  have ih := bl_le x y
  simp only [Op.bytesLess, Bool.or_eq_true, Bool.and_eq_true, decide_eq_true_eq, beq_iff_eq, Bool.or_eq_false_iff, Bool.and_eq_false_iff, decide_eq_false_iff_not]
  constructor
  · rintro (h | ⟨rfl, h⟩)
    · exact List.cons_le_cons_iff.2 (.inl h)
    · exact List.cons_le_cons_iff.2 (.inr ⟨rfl, ih.1 h⟩)
  ·
   rintro ⟨h1, h2⟩
   by_cases e : a = b
   · subst e
     refine List.cons_le_cons_iff.2 (.inr ⟨rfl, ih.2 ?_⟩)
     rcases h2 with h2 | h2
     · exact absurd h2 (by simp)
     · exact h2
   · refine List.cons_le_cons_iff.2 (.inl ?_)
     have := UInt8.lt_or_lt_of_ne e
     rcases this with h | h
     · exact absurd h h1
     · exact h
theorem bytesLess_leS (x y : ByteArray) : (Op.bytesLess x.toList y.toList = true → leS x y) ∧ (Op.bytesLess x.toList y.toList = false → leS y x) := by
 have e : ∀ z : ByteArray, z.toList = z.data.toList := fun z => by simp [ByteArray.toList_eq]
 rw [e, e]
 exact bl_le _ _
def Ins (L : List ByteArray) (i k : Nat) : Prop := ∀ a b, a < b → b ≤ i → b ≠ k → leS (L.getD a sE) (L.getD b sE)
theorem Ins.step {L : List ByteArray} {i k : Nat} (h : Ins L i k) (h0 : 0 < k) (hk : k ≤ i) (hi : i < L.length) (hlt : leS (L.getD k sE) (L.getD (k - 1) sE)) : Ins (swapL L k) i (k - 1) := by
 intro a b hab hbi hbk
 rw [swapL_get h0 (by omega) a (by omega), swapL_get h0 (by omega) b (by omega)]
 by_cases hb : b = k
 ·
  subst hb
  rw [if_neg (show ¬ b = b - 1 by omega), if_pos rfl]
  by_cases ha : a = b - 1
  · rw [if_pos ha]; exact hlt
  · rw [if_neg ha, if_neg (by omega)]
    exact h a (b - 1) (by omega) (by omega) (by omega)
 ·
  rw [if_neg hbk, if_neg hb]
  by_cases ha : a = k - 1
  · rw [if_pos ha]
    exact h k b (by omega) hbi hb
  · rw [if_neg ha]
    by_cases ha2 : a = k
    · rw [if_pos ha2]
      exact h (k - 1) b (by omega) hbi hb
    · rw [if_neg ha2]
      exact h a b hab hbi hb
theorem Ins.done {L : List ByteArray} {i k : Nat} (h : Ins L i k) (hk : k ≤ i) (hd : k = 0 ∨ leS (L.getD (k - 1) sE) (L.getD k sE)) : Ins L (i + 1) (i + 1) := by
 intro a b hab hbi hbk
 by_cases hb : b = k
 ·
  subst hb
  rcases hd with hd | hd
  · omega
  · by_cases ha : a = b - 1
    · rw [ha]; exact hd
    · exact (h a (b - 1) (by omega) (by omega) (by omega)).trans hd
 · exact h a b hab (by omega) hb
set_option maxRecDepth 100000 in
set_option maxHeartbeats 4000000 in
theorem rfree_t (t : T) (w : World) (R : Nat → Prop) (v : Value) (hN : t.bulk ≤ 1048576) (h : T.In w R t v) :
    Calls Tryz.prog 28 #[v] w fun e w' => ∃ (u : Value) (L : List ByteArray), e = .returned u ∧ NRow w' w.heap.size u L ∧ L.Perm (t.fr [] []) ∧ (∀ a b, a < b → b < L.length → leS (L.getD a sE) (L.getD b sE)) ∧ Below w.heap.size w w' := by
  obtain ⟨A1, c1, A2, c2, A3, c3, rfl, _⟩ := h.form
  have hIn := in_lt t _ h
  obtain ⟨W, hW, pt, hb0⟩ := made_blk w #[.int .i64 t.k, .string t.nm, .slice A1 t.ns.length c1, .bool t.ng, .slice A2 t.mg.length c2, .slice A3 t.ks.length c3] 28
  obtain ⟨Bt, hBt⟩ : ∃ b, b = w.heap.size := ⟨_, rfl⟩
  rw [← hBt] at pt
  have hcall := free_r 1048576 t W (fun g => R g ∧ g < w.heap.size) (fun _ => False) _ none 0 [] [] (.slice none 0 0) w.heap.size hN (Nat.le_refl _) (hIn.below hb0) (fun g hg => ⟨fun e => (by cases e), Nat.lt_of_lt_of_le hg.2 hb0.size⟩) ⟨Nat.le_refl _, fun h => absurd h (by simp)⟩ (fun g hg => hg.elim) (by simp only [List.length_nil]; omega) (by simp only [List.length_nil]; omega) (World.ownsRow_nil _ _ _ _) hb0.size
  simp only [List.length_nil] at hcall
  obtain ⟨L0, hL0⟩ : ∃ l, t.fr [] [] = l := ⟨_, rfl⟩
  have hll := T.fr_len t [] []
  rw [hL0] at hcall hll ⊢
  simp only [List.length_nil, Nat.zero_add] at hll
  have HC := Lib.hid hcall
  have HB0 := Lib.hid hb0
  clear hcall hIn h hL0
  go_enter Tryz.func28, Tryz.ntmps28
  go_upto_region 1 with (fail)
  rw [← hW, ← hBt]
  have HBT := Lib.hid hBt
  clear hW hBt hb0
  obtain ⟨x0, x1, x2, x3, x4, x5⟩ := pt.six
  go_upto_region 2 with (go_at_call 59; refine HC.out.mono ?_; rintro e w1 ⟨u, rfl, hN1, hG1⟩)
  have hb1 : Below w.heap.size w w1 := below_on HB0.out (show Below W.heap.size W w1 from Below.grown (Below.refl _ _) hG1.1 (Nat.le_refl _) (fun k hk => by cases hk))
  have hlen : L0.length ≤ 1048576 := by omega
  obtain ⟨A, c, rfl⟩ := row_form hN1
  clear x0 x1 x2 x3 x4 x5 pt hG1 HC
  obtain ⟨n, hn⟩ : ∃ n, L0.length = n := ⟨_, rfl⟩
  have HN := Lib.hid hn
  have HN1 := Lib.hid hN1
  rw [hn] at hlen ⊢
  clear hn hN1 hll
  go_wp2_with fail
  go_loopg [4] (n + 1) (fun gq v4 wr => ∃ (i : Nat) (L : List ByteArray), gq + i = n + 1 ∧ i ≤ n ∧ v4 = .int .i64 (i : Nat) ∧ L.length = n ∧ wr.ownsRow w.heap.size 9 1 (.slice A n c) n (L.map Value.string) ∧ L.Perm L0 ∧ Ins L i i ∧ Below w.heap.size w wr)
  case atStart => exact ⟨0, L0, by omega, Nat.zero_le _, rfl, HN.out, by have h := HN1.out; rw [← HN.out]; exact h, List.Perm.refl _, (fun a b h1 h2 h3 => by omega), hb1⟩
  case round =>
   clear hb1
   obtain ⟨i, L, hi, hin, rfl, hLn, hO, hP, hIns, hbw⟩ := hrel
   by_cases hlt : i < n
   ·
    have hi3 : decide (i < n) = true := decide_eq_true hlt
    obtain ⟨g, hA, hcc⟩ : ∃ g, A = some ⟨g, 0, none⟩ ∧ n ≤ c := by
     rcases hO.2 with ⟨e, h0⟩ | ⟨g, cap, cur, e, _, _, hc, _⟩
     · omega
     · injection e with e1 _ e3
       exact ⟨g, e1, by omega⟩
    subst hA
    have HLN := Lib.hid hLn
    have HO := Lib.hid hO
    have HP := Lib.hid hP
    have HI := Lib.hid hIns
    clear hLn hO hP hIns
    go_wp2_with fail
    go_loopg [5] (i + 1) (fun gz v5 wz => ∃ (k : Nat) (M : List ByteArray), gz = k + 1 ∧ k ≤ i ∧ v5 = .int .i64 (k : Nat) ∧ M.length = n ∧ wz.ownsRow w.heap.size 9 1 (.slice (some ⟨g, 0, none⟩) n c) n (M.map Value.string) ∧ M.Perm L0 ∧ Ins M i k ∧ Below w.heap.size w wz)
    case atStart => exact ⟨i, L, rfl, Nat.le_refl _, rfl, HLN.out, HO.out, HP.out, HI.out, hbw⟩
    case round =>
     clear hbw
     obtain ⟨k, M, hz, hki, rfl, hMn, hO2, hP2, hI2, hbz⟩ := hrel
     by_cases hk0 : 0 < k
     ·
      have d1 : decide ((k : Int) > 0) = true := by simp; omega
      have d2 : decide ((0 : Int) < (k : Int)) = true := by simp; omega
      have ek := hO2.cellAt k (by omega)
      have ek1 := hO2.cellAt (k - 1) (by omega)
      have fk := hO2.frozenAt k
      have fk1 := hO2.frozenAt (k - 1)
      obtain ⟨x, hx⟩ : ∃ x, M.getD k sE = x := ⟨_, rfl⟩
      obtain ⟨y, hy⟩ : ∃ x, M.getD (k - 1) sE = x := ⟨_, rfl⟩
      have ek2 : wr.cell? ⟨g, k, none⟩ = some (.string x) := by rw [ek, ← hx]; simp [List.getD, show k < M.length by omega]
      have ek3 : wr.cell? ⟨g, k - 1, none⟩ = some (.string y) := by rw [ek1, ← hy]; simp [List.getD, show k - 1 < M.length by omega]
      have wk : (k : Int) - 1 = ((k - 1 : Nat) : Int) := by omega
      have hk1 : (k : Int) < n := by omega
      have hk2 : ((k - 1 : Nat) : Int) < n := by omega
      have HM := Lib.hid (And.intro hx hy)
      have HO2 := Lib.hid hO2
      have HI2 := Lib.hid hI2
      have HMN := Lib.hid hMn
      clear ek ek1 hx hy hO2 hI2 hMn
      obtain ⟨q, hq⟩ : ∃ q, Op.bytesLess x.toList y.toList = q := ⟨_, rfl⟩
      have hle : (q = true → leS x y) ∧ (q = false → leS y x) := by
       rw [← hq]
       exact bytesLess_leS x y
      have HLE := Lib.hid hle
      clear hle
      cases q
      · go_upto_region 6 with (fail)
        go_quiet (fail)
        go_wp2_with fail
        go_roundg (n - i)
        case measure => omega
        case rel => exact ⟨i + 1, M, by omega, by omega, by go_num, HMN.out, (World.ownsRow.kept HO2.out (gb_of_below (below_drewN (Below.refl _ _) _) none) (.inr (fun e => by cases e))), hP2, Ins.done HI2.out hki (.inr (by rw [HM.out.1, HM.out.2]; exact HLE.out.2 (by first | rfl | trivial))), below_drewN hbz _⟩
      ·
       go_upto_region 6 with (fail)
       go_quiet (fail)
       go_upto_region 8 with (fail)
       obtain ⟨wq, hwq⟩ : ∃ w', w' = wr.drewN nq := ⟨_, rfl⟩
       have eq2 : wq.cell? ⟨g, k, none⟩ = some (.string x) := by rw [hwq]; exact ek2
       have eq3 : wq.cell? ⟨g, k - 1, none⟩ = some (.string y) := by rw [hwq]; exact ek3
       have gk0 : wq.frozen? ⟨g, k, none⟩ = false := by rw [hwq]; exact fk
       have gk1 : wq.frozen? ⟨g, k - 1, none⟩ = false := by rw [hwq]; exact fk1
       have HWQ := Lib.hid hwq
       rw [← hwq]
       clear hwq ek2 ek3 fk fk1
       go_region
       have hOq : wq.ownsRow w.heap.size 9 1 (.slice (some ⟨g, 0, none⟩) n c) n (M.map Value.string) := by rw [HWQ.out]; exact World.ownsRow.kept HO2.out (gb_of_below (below_drewN (Below.refl _ _) _) none) (.inr (fun e => by cases e))
       have hge : w.heap.size ≤ g := (World.ownsRow.lt hOq g rfl).1
       have hst := ((hOq.stored k (.string y)).1.stored (k - 1) (.string x)).1
       have hrow : ((M.map Value.string).set k (.string y)).set (k - 1) (.string x) = (swapL M k).map Value.string := by rw [← swapL_set hk0 (by rw [HMN.out]; omega), HM.out.1, HM.out.2, List.map_set, List.map_set]
       rw [hrow] at hst
       have HST := Lib.hid (World.ownsRow.kept hst (gb_of_below (Below.drew (Below.refl _ _)) none) (.inr (fun e => by cases e)))
       have HBW : Hid (Below w.heap.size w ((wq.setCell ⟨g, k, none⟩ (.string y)).setCell ⟨g, k - 1, none⟩ (.string x)).drew) := Lib.hid (by rw [HWQ.out]; exact (((below_drewN hbz _).setCell hge _).setCell hge _).drew)
       have hkn : k < M.length := by rw [HMN.out]; omega
       have HLN : Hid ((swapL M k).length = n) := Lib.hid (by rw [swapL_len hk0 hkn, HMN.out])
       have HPP := Lib.hid ((swapL_perm hk0 hkn).trans hP2)
       have HSS := Lib.hid (Ins.step HI2.out hk0 hki (by rw [HMN.out]; omega) (by rw [HM.out.1, HM.out.2]; exact HLE.out.1 (by first | rfl | trivial)))
       clear hst hrow hOq
       go_wp2_with fail
       go_roundg k
       case measure => omega
       case rel => exact ⟨k - 1, swapL M k, by omega, by omega, by go_num, HLN.out, HST.out, HPP.out, HSS.out, HBW.out⟩
     · obtain rfl : k = 0 := by omega
       go_upto_region 6 with (fail)
       go_quiet (fail)
       go_wp2_with fail
       go_roundg (n - i)
       case measure => omega
       case rel => exact ⟨i + 1, M, by omega, by omega, by go_num, hMn, (World.ownsRow.kept hO2 (gb_of_below (below_drewN (Below.refl _ _) _) none) (.inr (fun e => by cases e))), hP2, Ins.done hI2 hki (.inl rfl), below_drewN hbz _⟩
   · have hi3 : decide (i < n) = false := decide_eq_false hlt
     obtain rfl : i = n := by omega
     go_wp2_with fail
     go_ret
     exact ⟨_, L, rfl, by show wr.ownsRow _ _ _ (.slice A i c) L.length _; rw [hLn]; exact hO, hP, fun a b hab hb => hIns a b hab (by omega) (by omega), hbw⟩
end
section
open Go.RowKit
set_option maxRecDepth 100000 in
set_option maxHeartbeats 800000 in
theorem samenum_r (w : World) (R R' : Nat → Prop) (ng ng' : Bool) (A A' : Option Addr) (c c' : Nat) (mg mg' : List Nat) (h : SlR w R A c mg) (h' : SlR w R' A' c' mg') (hl : mg.length ≤ 1048576) (hl' : mg'.length ≤ 1048576) :
    Calls Tryz.prog 54 #[.agg #[.bool ng, .slice A mg.length c], .agg #[.bool ng', .slice A' mg'.length c']] w fun e w' => e = .returned (.bool ((nrmS ng mg == nrmS ng' mg') && (N.cmpN (N.nv (nrm mg)) (N.nv (nrm mg')) == 0))) ∧ Below w.heap.size w w' := by
  obtain ⟨W, hW, p0, p1, hsz, hb0⟩ := enter2r w 25 (.bool ng) (.slice A mg.length c) (.bool ng') (.slice A' mg'.length c')
  have HS := Lib.hid (h.below hb0)
  have HS' := Lib.hid (h'.below hb0)
  obtain ⟨m, hm⟩ : ∃ m, mg.length = m := ⟨_, rfl⟩
  obtain ⟨m', hm'⟩ : ∃ m, mg'.length = m := ⟨_, rfl⟩
  have HM := Lib.hid hm
  have HM' := Lib.hid hm'
  rw [hm] at p0 hW hl ⊢
  rw [hm'] at p1 hW hl' ⊢
  obtain ⟨_, _, c0, c1⟩ := p0.facts
  have hnl : (nrm mg').length ≤ 1048576 := by
   have := N.ofN_nv_length h'.1.lim
   unfold nrm
   rw [← HM'.out] at hl'
   exact Nat.le_trans this hl'
  have hnl1 : (nrm mg).length ≤ 1048576 := by
   have := N.ofN_nv_length h.1.lim
   unfold nrm
   rw [← HM.out] at hl
   exact Nat.le_trans this hl
  clear h h' hm hm'
  go_enter Tryz.func54, Tryz.ntmps54
  go_upto_region 1 with (fail)
  rw [← hW]
  clear hW
  have hc1 : Calls Tryz.prog 56 #[.agg #[.bool ng, .slice A m c]] W fun e w' => ∃ E d, e = .returned (.agg #[.bool (nrmS ng mg), .slice E (nrm mg).length d]) ∧ SlR w' (Nb w' W.heap.size w'.heap.size) E d (nrm mg) ∧ Below W.heap.size W w' := by
   have := norm_rl W R ng A c mg HS.out (by rw [HM.out]; exact hl)
   rw [HM.out] at this
   exact this
  have HC1 := Lib.hid hc1
  clear hc1
  go_upto_region 2 with (go_at_call 56; refine HC1.out.mono ?_; rintro e w2 ⟨E1, d1, rfl, hs1, hb2⟩)
  obtain ⟨W2, hW2, q0, hb3⟩ := made_blk w2 #[.bool (nrmS ng mg), .slice E1 (nrm mg).length d1] 25
  have hs2 := (hs1.below hb3).1
  have hbx := below_on hb2 hb3
  have hbw := below_on hb0 hbx
  have p1 := p1.below hbx
  rw [← hW2]
  obtain ⟨B2, hB2⟩ : ∃ b, b = w2.heap.size := ⟨_, rfl⟩
  rw [← hB2] at q0 ⊢
  clear hW2 hB2 hb2 hb3 hs1 c0 c1
  obtain ⟨_, _, c0, c1⟩ := p1.facts
  have hc2 : Calls Tryz.prog 56 #[.agg #[.bool ng', .slice A' m' c']] W2 fun e w' => ∃ E d, e = .returned (.agg #[.bool (nrmS ng' mg'), .slice E (nrm mg').length d]) ∧ SlR w' (Nb w' W2.heap.size w'.heap.size) E d (nrm mg') ∧ Below W2.heap.size W2 w' := by
   have := norm_rl W2 R' ng' A' c' mg' (HS'.out.below hbx) (by rw [HM'.out]; exact hl')
   rw [HM'.out] at this
   exact this
  have HC2 := Lib.hid hc2
  clear hc2
  go_upto_region 3 with (go_at_call 56; refine HC2.out.mono ?_; rintro e w4 ⟨E2, d2, rfl, hs3, hb4⟩)
  obtain ⟨W4, hW4, r0, hb5⟩ := made_blk w4 #[.bool (nrmS ng' mg'), .slice E2 (nrm mg').length d2] 25
  have hs4 := (hs3.below hb5).1
  have hby := below_on hb4 hb5
  have hbz := below_on hbw hby
  have q0 := q0.below hby
  have hs5 := hs2.below hby
  rw [← hW4]
  obtain ⟨B4, hB4⟩ : ∃ b, b = w4.heap.size := ⟨_, rfl⟩
  rw [← hB4] at r0 ⊢
  clear hW4 hB4 hb4 hb5 hs3 hs2
  have x0 := q0.cell 0
  have x1 := q0.cell 1
  have y0 := r0.cell 0
  have y1 := r0.cell 1
  simp only [List.getElem?_toArray, List.getElem?_cons_zero, List.getElem?_cons_succ] at x0 x1 y0 y1
  have HA := Lib.hid hs4
  have HB := Lib.hid hs5
  obtain ⟨l1, hl1⟩ : ∃ l, nrm mg = l := ⟨_, rfl⟩
  obtain ⟨l2, hl2⟩ : ∃ l, nrm mg' = l := ⟨_, rfl⟩
  obtain ⟨s1, hs1⟩ : ∃ l, nrmS ng mg = l := ⟨_, rfl⟩
  obtain ⟨s2, hs2⟩ : ∃ l, nrmS ng' mg' = l := ⟨_, rfl⟩
  rw [hl1] at HB hnl1 x1
  rw [hl2] at HA hnl y1
  rw [hs1] at x0
  rw [hs2] at y0
  have HE := Lib.hid (And.intro hl1 (And.intro hl2 (And.intro hs1 hs2)))
  obtain ⟨nl, hnn⟩ : ∃ nl, l1.length = nl := ⟨_, rfl⟩
  obtain ⟨nl', hnn'⟩ : ∃ nl, l2.length = nl := ⟨_, rfl⟩
  rw [hnn] at HB hnl1 x1
  rw [hnn'] at HA hnl y1
  clear hs4 hs5 c0 c1 hnn hnn' hl1 hl2 hs1 hs2
  obtain ⟨z, hz⟩ : ∃ z, N.cmpN (N.nv l1) (N.nv l2) = z := ⟨_, rfl⟩
  have hcm : Calls Tryz.prog 95 #[.slice E1 nl d1, .slice E2 nl' d2] W4 fun e w' => e = .returned (.int .i64 z) ∧ w' = W4 := by
   refine (rcmp_any W4 _ _ _ _ _ _ _ _ HB.out HA.out (by omega) (by omega)).mono ?_
   rintro e w' ⟨rfl, rfl⟩
   rw [hz]
   exact ⟨rfl, rfl⟩
  have HCM := Lib.hid hcm
  have HZ := Lib.hid hz
  clear hcm hz
  obtain ⟨q1, hq1⟩ : ∃ q, (s1 == s2) = q := ⟨_, rfl⟩
  obtain ⟨q2, hq2⟩ : ∃ q, (z == 0) = q := ⟨_, rfl⟩
  have HQ := Lib.hid (And.intro hq1 hq2)
  go_upto_region 4 with (go_at_call 95; refine HCM.out.mono ?_; rintro e w5 ⟨rfl, hw5⟩; obtain rfl := hw5.symm)
  cases q1 <;> cases q2
  all_goals
   go_wp2_with fail
   go_ret
   exact ⟨by rw [HE.out.1, HE.out.2.1, HE.out.2.2.1, HE.out.2.2.2, HZ.out, HQ.out.1, HQ.out.2]; rfl, hbz⟩
theorem num_same (ng ng' : Bool) (mg mg' : List Nat) : ((nrmS ng mg == nrmS ng' mg') && (N.cmpN (N.nv (nrm mg)) (N.nv (nrm mg')) == 0)) = (icmp (sgn ng (N.nv mg)) (sgn ng' (N.nv mg')) == 0) := by
 unfold nrm nrmS
 rw [N.nv_ofN, N.nv_ofN]
 generalize N.nv mg = x
 generalize N.nv mg' = y
 have e1 : ∀ a b : Int, (icmp a b == 0) = decide (a = b) := by
  intro a b
  unfold icmp
  by_cases h : a < b
  · rw [if_pos h, decide_eq_false (by omega)]; rfl
  · rw [if_neg h]
    by_cases h' : a = b
    · rw [if_pos h', decide_eq_true h']; rfl
    · rw [if_neg h', decide_eq_false h']; rfl
 have e2 : ∀ a b : Nat, (N.cmpN a b == 0) = decide (a = b) := by
  intro a b
  unfold N.cmpN
  by_cases h : a < b
  · rw [if_pos h, decide_eq_false (by omega)]; rfl
  · rw [if_neg h]
    by_cases h' : b < a
    · rw [if_pos h', decide_eq_false (by omega)]; rfl
    · rw [if_neg h', decide_eq_true (by omega)]; rfl
 rw [e1, e2]
 unfold sgn
 by_cases hx : 0 < x <;> by_cases hy : 0 < y <;> by_cases hxy : x = y <;> cases ng <;> cases ng' <;> simp [hx, hy, hxy] <;> omega
end
section
open Go.RowKit
theorem ns_eq_of {l m : List ByteArray} (h : l.length = m.length) (hj : ∀ j, j < l.length → l.getD j ⟨#[]⟩ = m.getD j ⟨#[]⟩) : l = m := by
 apply List.ext_getElem h
 intro j h1 h2
 have := hj j h1
 simpa [List.getD, h1, h2] using this
set_option maxRecDepth 100000 in
set_option maxHeartbeats 16000000 in
theorem rsame_t : ∀ (M : Nat) (t u : T) (w : World) (R R' : Nat → Prop) (v v' : Value), t.bulk ≤ M → u.bulk ≤ 1048576 → M ≤ 1048576 → T.In w R t v → T.In w R' u v' →
    Calls Tryz.prog 23 #[v, v'] w fun e w' => e = .returned (.bool (t.sm u)) ∧ Below w.heap.size w w'
  | 0, t, _, _, _, _, _, _, hN, _, _, _, _ => by have := T.bulk_pos t; omega
  | M + 1, t, u, w, R, R', v, v', hN, hN', hN2, h, h' => by
   have ih := rsame_t M
   obtain ⟨A1, c1, A2, c2, A3, c3, rfl, hnames, hmag, hc3, hkids⟩ := h.open
   obtain ⟨D1, d1, D2, d2, D3, d3, rfl, gnames, gmag, gc3, gkids⟩ := h'.open
   obtain ⟨hl1, hl2, hl3, hl4, hlen⟩ := T.len_le hN
   obtain ⟨gl1, gl2, gl3, gl4, glen⟩ := T.len_le hN'
   obtain ⟨qn, hqn⟩ : ∃ q, (icmp (sgn t.ng (N.nv t.mg)) (sgn u.ng (N.nv u.mg)) == 0) = q := ⟨_, rfl⟩
   have HNUM := Lib.hid (fun (w2 : World) (hb : Below w.heap.size w w2) => by
    have h := samenum_r w2 R R' t.ng u.ng A2 D2 c2 d2 t.mg u.mg (hmag.below hb) (gmag.below hb) (by omega) (by omega)
    rw [num_same, hqn] at h
    exact h)
   have HSM : Hid (t.sm u = ((t.k == u.k) && (decide (t.nm = u.nm) && (decide (t.ns = u.ns) && (qn && T.sms t.ks u.ks))))) := Lib.hid (by rw [T.sm_eq, hqn])
   have HA := Lib.hid (T.sms_all t.ks u.ks)
   have HG := Lib.hid (T.sms_get t.ks u.ks)
   have HL3 := Lib.hid (T.sms_len t.ks u.ks)
   obtain ⟨n, hn⟩ : ∃ n, t.ks.length = n := ⟨_, rfl⟩
   obtain ⟨m, hm⟩ : ∃ m, t.ns.length = m := ⟨_, rfl⟩
   obtain ⟨n', hn'⟩ : ∃ n, u.ks.length = n := ⟨_, rfl⟩
   obtain ⟨m', hm'⟩ : ∃ m, u.ns.length = m := ⟨_, rfl⟩
   obtain ⟨hcp1, hns⟩ := hnames
   obtain ⟨gcp1, gns⟩ := gnames
   rw [hn] at hkids hc3 hlen ⊢
   rw [hn'] at gkids gc3 glen ⊢
   rw [hm] at hl2 hns hcp1 ⊢
   rw [hm'] at gl2 gns gcp1 ⊢
   obtain ⟨k, hk0⟩ : ∃ k, t.k = k := ⟨_, rfl⟩
   obtain ⟨nm, hnm0⟩ : ∃ k, t.nm = k := ⟨_, rfl⟩
   obtain ⟨k', hk0'⟩ : ∃ k, u.k = k := ⟨_, rfl⟩
   obtain ⟨nm', hnm0'⟩ : ∃ k, u.nm = k := ⟨_, rfl⟩
   obtain ⟨ml, hml⟩ : ∃ k, t.mg.length = k := ⟨_, rfl⟩
   obtain ⟨ml', hml'⟩ : ∃ k, u.mg.length = k := ⟨_, rfl⟩
   obtain ⟨ng, hng⟩ : ∃ k, t.ng = k := ⟨_, rfl⟩
   obtain ⟨ng', hng'⟩ : ∃ k, u.ng = k := ⟨_, rfl⟩
   rw [hml, hng, hml', hng'] at HNUM
   rw [hk0, hnm0, hk0', hnm0'] at HSM
   rw [hk0, hnm0, hk0', hnm0', hml, hng, hml', hng']
   have HN := Lib.hid hn
   have HN' := Lib.hid hn'
   have HM := Lib.hid hm
   have HM' := Lib.hid hm'
   have HK := Lib.hid hkids
   have HK' := Lib.hid gkids
   have HB := Lib.hid hN
   have HB' := Lib.hid hN'
   have HNS := Lib.hid hns
   have HNS' := Lib.hid gns
   clear hn hn' hm hm' hkids gkids hN hN' hns gns h h' hmag gmag hk0 hnm0 hk0' hnm0' hml hml' hng hng' hqn hl1 hl3 hl4 gl1 gl3 gl4
   go_enter Tryz.func23, Tryz.ntmps23
   go_upto_region 1 with (fail)
   obtain ⟨W0, hW0, pt0, hb0⟩ := made_blk w #[.int .i64 k, .string nm, .slice A1 m c1, .bool ng, .slice A2 ml c2, .slice A3 n c3] 28
   have hsz0 : W0.heap.size = w.heap.size + 1 := by rw [hW0]; simp
   obtain ⟨Bt, hBt⟩ : ∃ b, b = w.heap.size := ⟨_, rfl⟩
   rw [← hW0, ← hBt]
   rw [← hBt] at pt0 hsz0
   obtain ⟨W1, hW1, pu, hb1⟩ := made_blk W0 #[.int .i64 k', .string nm', .slice D1 m' d1, .bool ng', .slice D2 ml' d2, .slice D3 n' d3] 28
   rw [← hW1]
   rw [hsz0] at pu
   have pt := pt0.below hb1
   have hb1 := below_on hb0 hb1
   clear hW0 hW1 hb0 hBt hsz0 pt0
   obtain ⟨x0, x1, x2, x3, x4, x5⟩ := pt.six
   obtain ⟨y0, y1, y2, y3, y4, y5⟩ := pu.six
   go_upto_region 2 with (go_at_call 54; refine (HNUM.out _ hb1).mono ?_; rintro e w2 ⟨rfl, hb2⟩)
   clear x0 x1 x2 x3 x4 x5 y0 y1 y2 y3 y4 y5
   have pt := pt.below hb2
   have pu := pu.below hb2
   have hb3 := below_on hb1 hb2
   clear hb1 hb2
   obtain ⟨x0, x1, x2, x3, x4, x5⟩ := pt.six
   obtain ⟨y0, y1, y2, y3, y4, y5⟩ := pu.six
   by_cases a1 : k = k'
   rotate_left
   · have dk : (k != k') = true := by simpa using a1
     have HF : Hid (t.sm u = false) := Lib.hid (by rw [HSM.out, show (k == k') = false by simpa using a1]; rfl)
     go_wp2_with fail
     go_ret
     exact ⟨by rw [HF.out]; rfl, hb3⟩
   subst a1
   by_cases a2 : nm = nm'
   rotate_left
   · have dk : (nm.toList == nm'.toList) = false := by rw [beq_str]; exact decide_eq_false a2
     have HF : Hid (t.sm u = false) := Lib.hid (by rw [HSM.out, decide_eq_false a2]; simp)
     go_wp2_with fail
     go_ret
     exact ⟨by rw [HF.out]; rfl, hb3⟩
   subst a2
   by_cases a3 : m = m'
   rotate_left
   · have dk : ((m : Int) != (m' : Int)) = true := by simp; omega
     have HF : Hid (t.sm u = false) := Lib.hid (by rw [HSM.out, show decide (t.ns = u.ns) = false from decide_eq_false (fun e => a3 (HM.out.symm.trans ((congrArg List.length e).trans HM'.out)))]; simp)
     go_wp2_with fail
     go_ret
     exact ⟨by rw [HF.out]; rfl, hb3⟩
   subst a3
   by_cases a4 : n = n'
   rotate_left
   ·
    have dk : ((n : Int) != (n' : Int)) = true := by simp; omega
    have hf : T.sms t.ks u.ks = false := by
     cases hq : T.sms t.ks u.ks with
     | false => rfl
     | true => exact absurd ((HN.out.symm.trans (HL3.out hq)).trans HN'.out) a4
    have HF : Hid (t.sm u = false) := Lib.hid (by rw [HSM.out, hf]; simp)
    clear hf
    go_wp2_with fail
    go_ret
    exact ⟨by rw [HF.out]; rfl, hb3⟩
   subst a4
   cases qn
   · have HF : Hid (t.sm u = false) := Lib.hid (by rw [HSM.out]; simp)
     go_wp2_with fail
     go_ret
     exact ⟨by rw [HF.out]; rfl, hb3⟩
   go_wp2_with fail
   go_loopg [6] (m + 1) (fun gk v5 wr => ∃ i : Nat, gk + i = m + 1 ∧ i ≤ m ∧ v5 = .int .i64 (i : Nat) ∧ Hid (∀ j, j < i → t.ns.getD j ⟨#[]⟩ = u.ns.getD j ⟨#[]⟩) ∧ Below w2.heap.size w2 wr)
   case atStart => exact ⟨0, by omega, Nat.zero_le _, rfl, Lib.hid (fun j hj => by omega), Below.refl _ _⟩
   case round =>
    clear x0 x1 x2 x3 x4 x5 y0 y1 y2 y3 y4 y5
    obtain ⟨i, hi, hin, rfl, HJ, hS⟩ := hrel
    obtain ⟨x0, x1, x2, x3, x4, x5⟩ := (pt.below hS).six
    obtain ⟨y0, y1, y2, y3, y4, y5⟩ := (pu.below hS).six
    by_cases hlt : i < m
    ·
     have hi3 : decide (i < m) = true := decide_eq_true hlt
     obtain ⟨b, o, rfl, _, hc⟩ := HNS.out (by omega)
     obtain ⟨b', o', rfl, _, hc'⟩ := HNS'.out (by omega)
     have e0 := keep_cell (hc i hlt) (below_on hb3 hS)
     have e1 := keep_cell (hc' i hlt) (below_on hb3 hS)
     obtain ⟨z, hz⟩ : ∃ z, t.ns.getD i ⟨#[]⟩ = z := ⟨_, rfl⟩
     obtain ⟨z', hz'⟩ : ∃ z, u.ns.getD i ⟨#[]⟩ = z := ⟨_, rfl⟩
     rw [hz] at e0
     rw [hz'] at e1
     have HZ := Lib.hid (And.intro hz hz')
     have hi0 : (0 : Int) ≤ i := by omega
     have hi1 : (i : Int) < m := by omega
     clear hc hc' hz hz'
     by_cases a5 : z = z'
     ·
      subst a5
      go_wp2_with fail
      go_quiet (fail)
      go_wp2_with fail
      go_roundg (m - i)
      case measure => omega
      case rel => exact ⟨i + 1, by omega, by omega, by go_num, Lib.hid (fun j hj => by
       by_cases hji : j = i
       · subst hji; rw [HZ.out.1, HZ.out.2]
       · exact HJ.out j (by omega)), below_drewN hS _⟩
     · have dk : (z.toList == z'.toList) = false := by rw [beq_str]; exact decide_eq_false a5
       have HF : Hid (t.sm u = false) := Lib.hid (by rw [HSM.out, show decide (t.ns = u.ns) = false from decide_eq_false (fun e => a5 (HZ.out.1.symm.trans ((congrArg (fun l => l.getD i ⟨#[]⟩) e).trans HZ.out.2)))]; simp)
       go_wp2_with fail
       go_quiet (fail)
       go_wp2_with fail
       go_ret
       exact ⟨by rw [HF.out]; rfl, below_drewN (below_on hb3 hS) _⟩
    ·
     have hi3 : decide (i < m) = false := decide_eq_false hlt
     obtain rfl : i = m := by omega
     have pt := pt.below hS
     have pu := pu.below hS
     have hb4 := below_on hb3 hS
     have HNE : Hid (t.ns = u.ns) := Lib.hid (ns_eq_of (HM.out.trans HM'.out.symm) (fun j hj => HJ.out j (by rw [HM.out] at hj; exact hj)))
     obtain ⟨wq, hwq⟩ : ∃ w', w' = wr := ⟨_, rfl⟩
     rw [← hwq] at pt pu hb4 x0 x1 x2 x3 x4 x5 y0 y1 y2 y3 y4 y5 ⊢
     clear hS hwq hb3
     go_wp2_with fail
     go_loopg [7] (n + 1) (fun gk v6 wr => ∃ j : Nat, gk + j = n + 1 ∧ j ≤ n ∧ v6 = .int .i64 (j : Nat) ∧ Hid (∀ i, i < j → (t.ks.getD i t0).sm (u.ks.getD i t0) = true) ∧ Below wq.heap.size wq wr)
     case atStart => exact ⟨0, by omega, Nat.zero_le _, rfl, Lib.hid (fun j hj => by omega), Below.refl _ _⟩
     case round =>
      clear x0 x1 x2 x3 x4 x5 y0 y1 y2 y3 y4 y5
      obtain ⟨j, hj, hjn, rfl, HQS, hS⟩ := hrel
      have x5 := (pt.below hS).six.2.2.2.2.2
      have y5 := (pu.below hS).six.2.2.2.2.2
      by_cases hlt : j < n
      ·
       have hi3 : decide (j < n) = true := decide_eq_true hlt
       obtain ⟨b, o, rfl, hk⟩ := HK.out (by omega)
       obtain ⟨b', o', rfl, hk'⟩ := HK'.out (by omega)
       have hkd := (hk j hlt).below (below_on hb4 hS)
       have hkd' := (hk' j hlt).below (below_on hb4 hS)
       have hub := T.kid_bulk HB.out (show j < t.ks.length by rw [HN.out]; exact hlt)
       have hub' := T.kid_bulk (Nat.le_trans HB'.out (show 1048576 ≤ 1048576 + 1 by omega)) (show j < u.ks.length by rw [HN'.out]; exact hlt)
       obtain ⟨a, ha⟩ : ∃ a, t.ks.getD j t0 = a := ⟨_, rfl⟩
       obtain ⟨a', ha'⟩ : ∃ a, u.ks.getD j t0 = a := ⟨_, rfl⟩
       rw [ha] at hkd hub
       rw [ha'] at hkd' hub'
       obtain ⟨q, hq⟩ : ∃ q, a.sm a' = q := ⟨_, rfl⟩
       have HQ := Lib.hid (show (t.ks.getD j t0).sm (u.ks.getD j t0) = q by rw [ha, ha', hq])
       have IH := Lib.hid (fun (w' : World) (R R' : Nat → Prop) (v v' : Value) (h : T.In w' R a v) (h' : T.In w' R' a' v') => by have := ih a a' w' R R' v v' hub hub' (by omega) h h'; rw [hq] at this; exact this)
       clear hk hk' ha ha' hq
       obtain ⟨B1, b1, B2, b2, B3, b3, h6, hkin⟩ := hkd
       obtain ⟨G1, g1, G2, g2, G3, g3, h6', hkin'⟩ := hkd'
       obtain ⟨e0, e1, e2, e3, e4, e5⟩ := h6
       obtain ⟨f0, f1, f2, f3, f4, f5⟩ := h6'
       have HI := Lib.hid (fun (w' : World) (hb : Below wr.heap.size wr w') => hkin.below hb)
       have HI' := Lib.hid (fun (w' : World) (hb : Below wr.heap.size wr w') => hkin'.below hb)
       have hi0 : (0 : Int) ≤ j := by omega
       have hi1 : (j : Int) < n := by omega
       have hS0 : ∀ w', Below wr.heap.size wr w' → (fun w' => (w'.cell? ⟨Bt, 5, none⟩ = some (.slice (some ⟨b, o, none⟩) n c3) ∧ w'.cell? ⟨Bt + 1, 5, none⟩ = some (.slice (some ⟨b', o', none⟩) n d3) ∧ w'.cell? ⟨b, o + j * 6, none⟩ = some (.int .i64 a.k) ∧ w'.cell? ⟨b, o + j * 6 + 1, none⟩ = some (.string a.nm) ∧ w'.cell? ⟨b, o + j * 6 + 2, none⟩ = some (.slice B1 a.ns.length b1) ∧ w'.cell? ⟨b, o + j * 6 + 3, none⟩ = some (.bool a.ng) ∧ w'.cell? ⟨b, o + j * 6 + 4, none⟩ = some (.slice B2 a.mg.length b2) ∧ w'.cell? ⟨b, o + j * 6 + 5, none⟩ = some (.slice B3 a.ks.length b3) ∧ w'.cell? ⟨b', o' + j * 6, none⟩ = some (.int .i64 a'.k) ∧ w'.cell? ⟨b', o' + j * 6 + 1, none⟩ = some (.string a'.nm) ∧ w'.cell? ⟨b', o' + j * 6 + 2, none⟩ = some (.slice G1 a'.ns.length g1) ∧ w'.cell? ⟨b', o' + j * 6 + 3, none⟩ = some (.bool a'.ng) ∧ w'.cell? ⟨b', o' + j * 6 + 4, none⟩ = some (.slice G2 a'.mg.length g2) ∧ w'.cell? ⟨b', o' + j * 6 + 5, none⟩ = some (.slice G3 a'.ks.length g3)) ∧ Below wr.heap.size wr w') w' := fun w' h =>
        ⟨⟨keep_cell x5 h, keep_cell y5 h, keep_cell e0 h, keep_cell e1 h, keep_cell e2 h, keep_cell e3 h, keep_cell e4 h, keep_cell e5 h, keep_cell f0 h, keep_cell f1 h, keep_cell f2 h, keep_cell f3 h, keep_cell f4 h, keep_cell f5 h⟩, h⟩
       have HS0 := Lib.hid hS0
       have HSW := Lib.hid hS
       clear hkin hkin' hS0 hS
       go_upto_region 12 with (fail)
       have hS : Below wr.heap.size wr wr := Below.refl _ _
       clear x5 y5 e0 e1 e2 e3 e4 e5 f0 f1 f2 f3 f4 f5
       go_region_held3 (fun w' => (w'.cell? ⟨Bt, 5, none⟩ = some (.slice (some ⟨b, o, none⟩) n c3) ∧ w'.cell? ⟨Bt + 1, 5, none⟩ = some (.slice (some ⟨b', o', none⟩) n d3) ∧ w'.cell? ⟨b, o + j * 6, none⟩ = some (.int .i64 a.k) ∧ w'.cell? ⟨b, o + j * 6 + 1, none⟩ = some (.string a.nm) ∧ w'.cell? ⟨b, o + j * 6 + 2, none⟩ = some (.slice B1 a.ns.length b1) ∧ w'.cell? ⟨b, o + j * 6 + 3, none⟩ = some (.bool a.ng) ∧ w'.cell? ⟨b, o + j * 6 + 4, none⟩ = some (.slice B2 a.mg.length b2) ∧ w'.cell? ⟨b, o + j * 6 + 5, none⟩ = some (.slice B3 a.ks.length b3) ∧ w'.cell? ⟨b', o' + j * 6, none⟩ = some (.int .i64 a'.k) ∧ w'.cell? ⟨b', o' + j * 6 + 1, none⟩ = some (.string a'.nm) ∧ w'.cell? ⟨b', o' + j * 6 + 2, none⟩ = some (.slice G1 a'.ns.length g1) ∧ w'.cell? ⟨b', o' + j * 6 + 3, none⟩ = some (.bool a'.ng) ∧ w'.cell? ⟨b', o' + j * 6 + 4, none⟩ = some (.slice G2 a'.mg.length g2) ∧ w'.cell? ⟨b', o' + j * 6 + 5, none⟩ = some (.slice G3 a'.ks.length g3)) ∧ Below wr.heap.size wr w')
        (first | exact HS0.out _ (by with_reducible assumption) | exact HS0.out _ (Below.drew (by with_reducible assumption)))
        (first
          | (go_at_call 23; refine (IH.out _ R R' _ _ (HI.out _ (s_below (by with_reducible assumption))) (HI'.out _ (s_below (by with_reducible assumption)))).mono ?_; rintro e wn ⟨rfl, hb⟩; have hS2 := below_on (s_below (by with_reducible assumption)) hb; clear hS; have hS := hS2; clear hS2 hb))
       replace hS := below_on HSW.out hS
       cases q
       · have HF : Hid (t.sm u = false) := Lib.hid (by
          have hf : T.sms t.ks u.ks = false := by
           cases hq : T.sms t.ks u.ks with
           | false => rfl
           | true => exact absurd (HG.out j hq (by rw [HN.out]; exact hlt)) (by rw [HQ.out]; decide)
          rw [HSM.out, hf]; simp)
         go_wp2_with fail
         go_ret
         exact ⟨by rw [HF.out]; rfl, below_on hb4 hS⟩
       · go_wp2_with fail
         go_roundg (n - j)
         case measure => omega
         case rel => exact ⟨j + 1, by omega, by omega, by go_num, Lib.hid (fun i hij => by
          by_cases hji : i = j
          · subst hji; exact HQ.out
          · exact HQS.out i (by omega)), hS⟩
      · have hi3 : decide (j < n) = false := decide_eq_false hlt
        obtain rfl : j = n := by omega
        have HT : Hid (t.sm u = true) := Lib.hid (by rw [HSM.out, HA.out (HN.out.trans HN'.out.symm) (fun i hi => HQS.out i (by rw [HN.out] at hi; exact hi)), decide_eq_true HNE.out]; simp)
        go_wp2_with fail
        go_ret
        exact ⟨by rw [HT.out]; rfl, below_on hb4 hS⟩
end
end Go.Proofs.YthiadenmljbdaaaGreatDoor

/-
  store.Store.Names: its iterator, in the wide fence; the law of a range over it.
-/
import Derived.Test.YtmncamnlmpajbaaSStore
import Derived.Test.YtmncamnlmpajbaaSLay
import Derived.RangeFuncNested
import Derived.RangeFuncBound
import Derived.RangeFuncCalls
import Derived.RangeFuncLeaves
import Derived.Shelf.Abstract
import Derived.Shelf.RegionOpen
import Derived.OwnWalkIn
import Derived.TacticsInMore
import Derived.LoopNIn
import Derived.LoopIn
import Derived.Maps.OwnIn
namespace Go.Proofs.Ytmncamnlmpajbaa
open Go.RowKit Go.Maps Go.Shelf
attribute [local go_sem] Oper.semAt_some

/-- Of what lay in w all is as it was, but the blocks of which x speaks. -/
structure Fr (w w' : World) (x : Nat → Prop) : Prop where
  os : w'.os = w.os
  tape : w'.tape = w.tape
  output : w'.output = w.output
  size : w.heap.size ≤ w'.heap.size
  block : ∀ b, b < w.heap.size → ¬ x b → w'.heap[b]? = w.heap[b]?
section
variable {w w' w1 w2 : World} {x y : Nat → Prop} {b : Nat} {t : TypeId} {cs : Array Value}
theorem Fr.refl (w : World) (x : Nat → Prop) : Fr w w x := ⟨rfl, rfl, rfl, Nat.le_refl _, fun _ _ _ => rfl⟩
theorem Fr.below (h : Fr w w1 x) (hb : Below w1.heap.size w1 w2) : Fr w w2 x :=
  ⟨hb.os.trans h.os, hb.tape.trans h.tape, hb.output.trans h.output, Nat.le_trans h.size hb.size, fun b hlt hx => (hb.block b (by have := h.size; omega)).trans (h.block b hlt hx)⟩
theorem Fr.set (h : Fr w w1 x) (hb : x b ∨ w.heap.size ≤ b) (i : Nat) (u : Value) : Fr w (w1.setCell ⟨b, i, none⟩ u) x :=
  ⟨h.os, h.tape, h.output, by simpa [World.setCell] using h.size, fun k hk hx => (Below.heap_setCell w1 ⟨b, i, none⟩ u k (fun e => by
    have e' : k = b := e
    subst e'
    rcases hb with hb | hb
    · exact hx hb
    · omega)).trans (h.block k hk hx)⟩
theorem Fr.grown {row : Option Nat} (h : Fr w w1 x) (hg : w1.grownBy w2 row) (hr : ∀ k, row = some k → x k ∨ w.heap.size ≤ k) : Fr w w2 x :=
  ⟨hg.os.trans h.os, hg.tape.trans h.tape, hg.output.trans h.output, Nat.le_trans h.size hg.size, fun k hk hx => (hg.block k (by have := h.size; omega) (fun e => by rcases hr k e.symm with h1 | h1; exact hx h1; omega)).trans (h.block k hk hx)⟩
theorem Fr.step (h : Fr w w1 x) (h' : Fr w1 w2 y) (hy : ∀ k, y k → x k ∨ w.heap.size ≤ k) : Fr w w2 x :=
  ⟨h'.os.trans h.os, h'.tape.trans h.tape, h'.output.trans h.output, Nat.le_trans h.size h'.size, fun k hk hx => (h'.block k (by have := h.size; omega) (fun e => by rcases hy k e with h1 | h1; exact hx h1; omega)).trans (h.block k hk hx)⟩
theorem Fr.blk (h : Fr w w' x) (hp : Blk w b t cs) (hx : ¬ x b) : Blk w' b t cs := (h.block b hp.lt hx).trans hp
theorem Fr.below_of (h : Fr w w' x) (hx : ∀ k, x k → w.heap.size ≤ k) : Below w.heap.size w w' :=
  ⟨h.os, h.tape, h.output, h.size, fun k hk => h.block k hk (fun e => by have := hx k e; omega)⟩
end
theorem gb_blk {w w2 : World} {b : Nat} {t : TypeId} {cs : Array Value} {row : Option Nat} (h : Blk w b t cs) (hg : w.grownBy w2 row) (hne : some b ≠ row) : Blk w2 b t cs := (hg.block b h.lt hne).trans h

/-- What the iterator and the loop's own records may do: new blocks come; what holds no cells may change, from B on. -/
def AbN (B : Nat) (w w' : World) : Prop := Fr w w' (fun b => B ≤ b ∧ ∃ o, w.heap[b]? = some o ∧ o.isCells = false)
theorem AbN.below {B : Nat} {w w' : World} (h : Below w.heap.size w w') : AbN B w w' := (Fr.refl w _).below h
theorem abN_put {B k : Nat} (w : World) (o' : Obj) (hB : B ≤ k) {o : Obj} (hk : w.heap[k]? = some o) (ho : o.isCells = false) : AbN B w (w.putObj k o') :=
  (Fr.refl w _).grown (grownBy_putObj' w k o') (fun j e => by cases e; exact .inl ⟨hB, o, hk, ho⟩)
theorem AbN.blk {B b : Nat} {u u' : World} {t : TypeId} {cs : Array Value} (h : AbN B u u') (hp : Blk u b t cs) : Blk u' b t cs := by
  refine Fr.blk h hp ?_
  rintro ⟨_, o, ho, hc⟩
  have e := (show u.heap[b]? = _ from hp).symm.trans ho
  injection e with e
  subst e
  cases hc
theorem AbN.upto {B B' : Nat} {u0 u u' : World} (hb : Below B' u0 u) (hab : AbN B u u') (hle : B' ≤ B) (hs : B' ≤ u.heap.size) : Below B' u0 u' :=
  ⟨hab.os.trans hb.os, hab.tape.trans hb.tape, hab.output.trans hb.output, Nat.le_trans hb.size hab.size, fun b hlt => (hab.block b (by omega) (fun h => by have := h.1; omega)).trans (hb.block b hlt)⟩
/-- What a body keeps: the cells below B, but those of which E speaks. -/
def Kb (B : Nat) (E : Nat → Prop) (w w' : World) : Prop := (w'.os = w.os ∧ w'.tape = w.tape ∧ w'.output = w.output ∧ w.heap.size ≤ w'.heap.size) ∧ ∀ b cs t fr, b < B → ¬ E b → w.heap[b]? = some (.cells cs t fr) → w'.heap[b]? = some (.cells cs t fr)
theorem Kb.trans {B : Nat} {E : Nat → Prop} {w w1 w2 : World} (h : Kb B E w w1) (k : Kb B E w1 w2) : Kb B E w w2 :=
  ⟨⟨k.1.1.trans h.1.1, k.1.2.1.trans h.1.2.1, k.1.2.2.1.trans h.1.2.2.1, Nat.le_trans h.1.2.2.2 k.1.2.2.2⟩, fun b cs t fr h1 h2 h3 => k.2 b cs t fr h1 h2 (h.2 b cs t fr h1 h2 h3)⟩
theorem kb_put {B k : Nat} {E : Nat → Prop} (w : World) (o' : Obj) {o : Obj} (hk : w.heap[k]? = some o) (ho : o.isCells = false) : Kb B E w (w.putObj k o') :=
  ⟨⟨rfl, rfl, rfl, by simp⟩, fun b cs t fr _ _ hb => (World.putObj_heap_other (fun e => by
    subst e
    have e := hk.symm.trans hb
    injection e with e
    subst e
    cases ho)).trans hb⟩
theorem kb_fr {B B0 : Nat} {E : Nat → Prop} {W W' : World} {x : Nat → Prop} (h : Fr W W' x) (hx : ∀ b, x b → b < W.heap.size → (E b ∨ B ≤ b) ∧ ∃ cs t fr, W.heap[b]? = some (.cells cs t fr)) : KeepsFrom B0 W W' ∧ Kb B E W W' := by
  refine ⟨⟨h.size, fun k o _ hk ho => (h.block k (Array.getElem?_eq_some_iff.1 hk).1 (fun e => ?_)).trans hk⟩, ⟨h.os, h.tape, h.output, h.size⟩, fun b cs t fr h1 h2 hb => (h.block b (Array.getElem?_eq_some_iff.1 hb).1 (fun e => ?_)).trans hb⟩
  · obtain ⟨_, cs, t, fr, hc⟩ := hx k e (Array.getElem?_eq_some_iff.1 hk).1
    have e := hk.symm.trans hc
    injection e with e
    subst e
    cases ho
  · rcases (hx b e (Array.getElem?_eq_some_iff.1 hb).1).1 with h | h
    · exact h2 h
    · omega
def lnames (L : Kl) : List ByteArray := L.map (·.1)
/-- The next name. -/
def Nn (ns pre : List ByteArray) (x : ByteArray) : Prop := pre.length < ns.length ∧ pre = ns.take pre.length ∧ x = ns.getD pre.length ⟨#[]⟩
/-- The row that the iterator goes over. -/
def NRow (w : World) (A : Option Addr) (lo hi : Nat) (ns : List ByteArray) : Prop := 0 < ns.length → ∃ g cur, A = some ⟨g, 0, none⟩ ∧ lo ≤ g ∧ g < hi ∧ w.heap[g]? = some (.cells cur 9 (0, 0)) ∧ ∀ i, i < ns.length → cur[i]? = some (.string (ns.getD i ⟨#[]⟩))
theorem NRow.of_own {w : World} {lo : Nat} {v : Value} {ns : List ByteArray} {xs : List Value} {n : Nat} (hn : n = ns.length) (hx : xs = ns.map Value.string) (h : w.ownsRow lo 9 1 v n xs) : ∃ A c, v = .slice A ns.length c ∧ NRow w A lo w.heap.size ns ∧ ns.length ≤ c := by
  subst hn; subst hx
  obtain ⟨_, ⟨e, h0⟩ | ⟨g, cap, cur, e, hb, hg, hc, _, _, ht⟩⟩ := h
  · exact ⟨none, 0, by rw [e, h0], fun hp => by omega, by omega⟩
  · refine ⟨_, cap, e, fun _ => ⟨g, cur, rfl, hb, (Array.getElem?_eq_some_iff.1 hg).1, hg, fun i hi => ?_⟩, hc⟩
    have e2 : (cur.toList.take (ns.length * 1))[i]? = some (.string (ns.getD i ⟨#[]⟩)) := by rw [ht]; simp [List.getD, hi]
    rw [List.getElem?_take_of_lt (by omega)] at e2
    simpa using e2
theorem NRow.kb {w w' : World} {A : Option Addr} {lo hi : Nat} {ns : List ByteArray} {E : Nat → Prop} (h : NRow w A lo hi ns) (hE : ∀ b, E b → b < lo) (hk : Kb hi E w w') : NRow w' A lo hi ns := fun hp => by
  obtain ⟨g, cur, e, h1, h2, h3, h4⟩ := h hp
  exact ⟨g, cur, e, h1, h2, hk.2 g _ _ _ h2 (fun he => by have := hE g he; omega) h3, h4⟩
theorem enc_names (L : Kl) : (L.map (fun p => p.1.data.toList)).map encStr = (lnames L).map Value.string := by
  unfold lnames
  rw [List.map_map, List.map_map]
  apply List.map_congr_left
  intro p _
  simp [encStr]
set_option maxRecDepth 100000 in
set_option maxHeartbeats 8000000 in
theorem names1_in (n Lp Bs : Nat) {P M : Nat} {R : Nat → Prop} {L : Kl} (E : Nat → Prop) (J Jx : Nat → List ByteArray → World → Prop) (w : World) (hE : ∀ b, E b → b < w.heap.size)
    (_hJ : ∀ B s u u', J B s u → AbN w.heap.size u u' → J B s u')
    (hY : ∀ m B pre x w1, w.heap.size ≤ B → J B pre w1 → Nn (lnames L) pre x → YieldAt Fence.wide m Try.prog Lp #[.string x] w1 fun e w' => (e = .returned (.bool true) ∧ J B (pre ++ [x]) w' ∧ Kb B E w1 w') ∨ (e = .returned (.bool false) ∧ Jx B (pre ++ [x]) w' ∧ Kb B E w1 w'))
    (hst : StoreAt w P M R L) (hBs : Blk w Bs 23 #[.pointer (some ⟨P, 0, none⟩)]) (h0 : ∀ u, AbN w.heap.size w u → J u.heap.size [] u) :
    CallsIn Fence.wide n Try.prog 30 #[.func (.yield Lp) #[] #[], .pointer (some ⟨Bs, 0, none⟩)] w fun e w' => (∃ v, e = .returned v) ∧ ((∃ B, w.heap.size ≤ B ∧ J B (lnames L) w') ∨ (∃ B k, w.heap.size ≤ B ∧ k ≤ (lnames L).length ∧ Jx B ((lnames L).take k) w')) := by
  obtain ⟨hne, hp, ⟨D, hown, hrep⟩, hto, hln, hbk, hrp, hrm⟩ := hst
  have hln2 : (lnames L).length ≤ 40 := by unfold lnames; rw [List.length_map]; exact hln
  obtain ⟨ns, hns⟩ : ∃ ns, lnames L = ns := ⟨_, rfl⟩
  have cB := hBs.cell 0
  have cP := hp.cell 0
  simp only [List.getElem?_toArray, List.getElem?_cons_zero] at cB cP
  have hsize := hrep.size
  have hmax : Maps.size D ≤ maxLen := by rw [hsize]; exact Nat.le_trans hln (by decide)
  have hbytes : Maps.size D * 16 ≤ 140737488355328 := by rw [hsize]; omega
  have hform : ∀ (w' : World) (v : Value) (ss : List (List UInt8)), ss.Perm (strKeys D) → w'.ownsRow (w.alloc (.cells #[.map (some M)] 59)).heap.size 9 1 v ss.length ((ss.mergeSort (fun x y => decide (x ≤ y))).map encStr) → ∃ A c, v = .slice A ns.length c ∧ NRow w' A (w.alloc (.cells #[.map (some M)] 59)).heap.size w'.heap.size ns ∧ ns.length ≤ c := by
    intro w' v ss hss hrow
    refine NRow.of_own ?_ ?_ hrow
    · rw [hss.length_eq, hrep.keys.length_eq, ← hns]; simp [lnames]
    · rw [hrep.sorted hss, enc_names, hns]
  rw [hns] at hY hln2 ⊢
  obtain ⟨nl, hnl⟩ : ∃ nl, ns.length = nl := ⟨_, rfl⟩
  have HO := Lib.hid hown
  have HF := Lib.hid hform
  have HNL := Lib.hid hnl
  clear hown hrep hform hp hBs hns hsize hbk
  refine callsIn_of_wp Try.func30 rfl trivial ?_ rfl
  simp only [Try.ntmps30, List.size_toArray, List.length_cons, List.length_nil, Nat.reduceAdd, Nat.reduceSub, Array.replicate_succ, Array.replicate_zero, List.push_toArray, List.append_toArray, List.nil_append, List.cons_append]
  gi_wp2_with (first
    | (refine ⟨trivial, fun h => (by cases h), ?_⟩; gi_at_call 32; refine (callsIn_wide.2 (callsIn_wide.1 (Try.maps_Keys_32 _ _))).mono ?_; rintro e w2 ⟨rfl, rfl⟩)
    | (refine ⟨trivial, fun h => (by cases h), ?_⟩; gi_at_call 31; refine (callsIn_wide.2 (callsIn_wide.1 (Try.slices_Sorted_keys_31_32 M _ D RV w HO.out hmax hbytes))).mono ?_; rintro e w2 ⟨v, ss, rfl, hS, hrow, _, hb⟩; obtain ⟨A, c, rfl, hRow, hcap⟩ := HF.out _ _ _ hS hrow; clear hrow hS))
  have hbw2 := below_on (below_alloc1 w (.cells #[.map (some M)] 59)) hb
  have HJ0 := Lib.hid (h0 _ (AbN.below hbw2))
  have HR0 := Lib.hid hRow
  have hE2 : ∀ b, E b → b < (w.alloc (.cells #[.map (some M)] 59)).heap.size := fun b he => by have := hE b he; simp only [World.size_alloc]; omega
  have hsz2 := hbw2.size
  obtain ⟨lo, hlo⟩ : ∃ lo, (w.alloc (.cells #[.map (some M)] 59)).heap.size = lo := ⟨_, rfl⟩
  rw [hlo] at HR0 hE2
  have hnl40 : nl ≤ 40 := by rw [← hnl]; exact hln2
  clear hnl hRow hb hbw2 cB cP h0 hlo
  gi_loopw [14] (fun v14 wr => ∃ i : Nat, i ≤ nl ∧ v14 = .int .i64 (i : Nat) ∧ Hid (J w2.heap.size (ns.take i) wr) ∧ Hid (NRow wr A lo w2.heap.size ns)) (fun v14 _ => nl - (intOf v14).toNat)
  case atStart => exact ⟨0, Nat.zero_le _, rfl, HJ0, HR0⟩
  case round =>
    obtain ⟨i, hin, rfl, HJ, HR⟩ := hrel
    by_cases hlt : i < nl
    · obtain ⟨g, cur, rfl, hg1, hg2, hg3, hg4⟩ := HR.out (by rw [HNL.out]; omega)
      have e0 : wr.cell? ⟨g, i, none⟩ = some (.string (ns.getD i ⟨#[]⟩)) := by rw [cell_of_row _ _ _ _ _ _ hg3]; exact hg4 i (by rw [HNL.out]; exact hlt)
      have hlen : (ns.take i).length = i := by rw [List.length_take, HNL.out]; omega
      have hnx : Nn ns (ns.take i) (ns.getD i ⟨#[]⟩) := ⟨by rw [hlen, HNL.out]; exact hlt, by rw [hlen], by rw [hlen]⟩
      have hsn : ns.take (i + 1) = ns.take i ++ [ns.getD i ⟨#[]⟩] := take_snoc _ _ _ (by rw [HNL.out]; exact hlt)
      obtain ⟨s, hs⟩ : ∃ s, ns.getD i ⟨#[]⟩ = s := ⟨_, rfl⟩
      rw [hs] at e0 hnx hsn
      obtain ⟨fn, tmps, assign, body, hy, hR⟩ := hY (n - 1) _ (ns.take i) s wr hsz2 HJ.out hnx
      have HSN := Lib.hid hsn
      have hi0 : (0 : Int) ≤ i := by omega
      have hi1 : (i : Int) < nl := by omega
      clear hnx hsn hs hlen hg3 hg4
      gi_wp2_with (refine ⟨fun h => (by cases h), ?_⟩; refine hR.mono ?_; clear hR; rintro e W3 (⟨rfl, hJ3, hk3⟩ | ⟨rfl, hx3, hk3⟩))
      · go_roundw
        case rel => exact ⟨i + 1, by omega, by go_num, Lib.hid (by rw [HSN.out]; exact hJ3), Lib.hid (HR.out.kb hE2 hk3)⟩
        case measure => simp [intOf]; omega
      · gi_wp2
        refine bodyPost_ret (results_none rfl _ _ _) rfl ?_
        exact ⟨⟨_, rfl⟩, .inr ⟨_, i + 1, hsz2, by rw [HNL.out]; omega, by rw [HSN.out]; exact hx3⟩⟩
    · obtain rfl : i = nl := by omega
      have htk : ns.take i = ns := by rw [← HNL.out, List.take_length]
      have hj := HJ.out
      rw [htk] at hj
      gi_wp2
      go_end0
      exact ⟨⟨_, rfl⟩, .inl ⟨_, hsz2, hj⟩⟩
end Go.Proofs.Ytmncamnlmpajbaa

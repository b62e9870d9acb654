/-
  store.Store: New, Len, Nodes, Get, Drop: contracts.
-/
import Derived.Test.YtmncamnlmpajbaaSModel
import Derived.Deep.RegionHeld3
import Derived.BigQuiet
namespace Go.Proofs.Ytmncamnlmpajbaa
open Go.RowKit Go.Maps Go.WideMaps

/-- A store in w: its struct's block, its map's block; it holds L, in blocks of R. -/
def StoreAt (w : World) (P M : Nat) (R : Nat → Prop) (L : Kl) : Prop := P ≠ M ∧ Blk w P 61 #[.map (some M), .int .i64 (total L : Nat)] ∧ (∃ D, w.ownsMap Try.prog 9 RV M L.length D ∧ Reps w R D L) ∧ total L ≤ 3000 ∧ L.length ≤ 40 ∧ (∀ p ∈ L, p.2.bulk ≤ 1048576 ∧ p.1.size ≤ 1048576) ∧ ¬ R P ∧ ¬ R M
theorem StoreAt.below {w w' : World} {P M : Nat} {R : Nat → Prop} {L : Kl} (h : StoreAt w P M R L) (hb : Below w.heap.size w w') : StoreAt w' P M R L := by
  obtain ⟨h1, h2, ⟨D, h3, h4⟩, h5⟩ := h
  exact ⟨h1, h2.below hb, ⟨D, h3.kept (gb_of_below hb none) (by simp), h4.keep (fun p _ v hv => hv.below hb)⟩, h5⟩
/-- 'v, ok := m[k]': what comes is known. -/
theorem wpList_look {P : Program} (w : World) {ops : Array Oper} {rest : List Oper} {o : Oper} {a : Act} {Q : Exit → Act → World → Prop} (hg : o.guard = none) (m x : Operand) (t : TypeId) (hop : o.op = Op.lookup t m x true)
    (k e : TypeId) (K : Keyed P k) (ht : P.underlying t = some (.map k e)) {z : Value} (hz : (zeroValue e).run P w = .ok z w) (b n : Nat) (D : DataW Value)
    (hm : a.eval m = .map (some b)) (hown : w.ownsMap P k RV b n D) (key : Value) (kl : Lit) (hx : a.eval x = key) (hkey : keyOf P k key = some kl) (u : Value) (q : Bool) (hat : D.atKey kl (.held z) = .held u) (hhas : has D kl = q)
    (hK : wpList P ops Q rest (a.put o.dst (.tuple #[u, .bool q])) w) : wpList P ops Q (o :: rest) a w := by
  refine wpList_lookup_own_ok w hg m x t hop k e K ht RV hz (.held z) [] rfl b n D hm hown key kl hx hkey (fun v ps hv => ?_)
  rw [hat] at hv
  have e : v = u := by
    unfold RV at hv
    injection hv with hv
    injection hv with hv
    injection hv
  rw [e, hhas]
  exact hK
section
variable {w : World} {P M : Nat} {R : Nat → Prop} {L : Kl}
theorem sKeyed : Keyed Try.prog 9 := string_keyed Try.underlying9
set_option maxRecDepth 100000 in
theorem len_s (h : StoreAt w P M R L) : Calls Try.prog 11 #[.pointer (some ⟨P, 0, none⟩)] w fun e w' => e = .returned (.int .i64 (L.length : Nat)) ∧ w' = w := by
  obtain ⟨hne, hp, ⟨D, hown, hrep⟩, _⟩ := h
  have c0 := hp.cell 0
  simp only [List.getElem?_toArray, List.getElem?_cons_zero] at c0
  have HR := Lib.hid hrep
  have HO := Lib.hid hown
  clear hrep hown hp
  go_enter Try.func11, Try.ntmps11
  go_wp2_with (at_len; refine wpList_len_own _ rfl _ 59 rfl 9 70 Try.underlying59 _ M _ D rfl HO.out ?_)
  go_ret
  exact ⟨by rw [HR.out.size]; rfl, rfl⟩
set_option maxRecDepth 100000 in
theorem nodes_s (h : StoreAt w P M R L) : Calls Try.prog 12 #[.pointer (some ⟨P, 0, none⟩)] w fun e w' => e = .returned (.int .i64 (total L : Nat)) ∧ w' = w := by
  obtain ⟨hne, hp, _⟩ := h
  have c1 := hp.cell 1
  simp only [List.getElem?_toArray, List.getElem?_cons_zero, List.getElem?_cons_succ] at c1
  clear hp
  go_enter Try.func12, Try.ntmps12
  go_wp2_with fail
  go_ret
  exact ⟨rfl, rfl⟩
set_option maxRecDepth 100000 in
theorem new_s (w : World) : Calls Try.prog 7 #[] w fun e w' => ∃ P M, e = .returned (.pointer (some ⟨P, 0, none⟩)) ∧ (∀ R : Nat → Prop, ¬ R P → ¬ R M → StoreAt w' P M R []) ∧ w.heap.size ≤ P ∧ w.heap.size ≤ M ∧ P < w'.heap.size ∧ M < w'.heap.size ∧ Below w.heap.size w w' := by
  have hmk := run_makeMap (P := Try.prog) 59 w
  go_enter Try.func7, Try.ntmps7
  go_wp2_with fail
  go_ret
  have hm := World.ownsMap_made (H := Value) w Try.prog 9 RV
  have hb1 := below_alloc1 w (.map #[] 0)
  have hb2 := below_alloc1 (w.alloc (.map #[] 0)) (.cells #[.map (some w.heap.size), .int .i64 0] 61)
  have hp := Blk.new (w.alloc (.map #[] 0)) 61 #[.map (some w.heap.size), .int .i64 0]
  have hsz : (w.alloc (.map #[] 0)).heap.size = w.heap.size + 1 := by simp
  rw [hsz] at hp
  refine ⟨w.heap.size + 1, w.heap.size, rfl, fun R h1 h2 => ⟨by omega, hp, ⟨_, hm.kept (gb_of_below hb2 none) (by simp), Reps.nil _ _⟩, by simp [total], by simp, (fun p hp => by cases hp), h1, h2⟩, by omega, by omega, hp.lt, by have := hp.lt; omega, below_on hb1 hb2⟩
theorem results_tree2 {fn : Func} {p u : Tmp} (h : fn.results = #[.cell p 35, .tmp u]) (tmps : Array Value) (w : World) (g : Nat) (t : TypeId) (a0 a1 a2 a3 a4 a5 : Value)
    (hp : tmps.getD p undef = .pointer (some ⟨g, 0, none⟩)) (hg : Blk w g t #[a0, a1, a2, a3, a4, a5]) : (results fn tmps).run Try.prog w = .ok (.tuple #[.agg #[a0, a1, a2, a3, a4, a5], tmps.getD u undef]) w := by
  have hp' : tmps[p]?.getD undef = .pointer (some ⟨g, 0, none⟩) := by simpa using hp
  simp [results, h, hp', asAddr, run_loadVar_row w g _ 35 _ _ _ hg Try.underlying35 rfl sizeTree]
set_option maxRecDepth 100000 in
set_option maxHeartbeats 1600000 in
theorem get_away (h : StoreAt w P M R L) (nm : ByteArray) (hnm : nm.size ≤ 1048576) (hg : lget nm L = none) :
    Calls Try.prog 19 #[.pointer (some ⟨P, 0, none⟩), .string nm] w fun e w' => e = .returned (.tuple #[kv kc0, .bool false]) ∧ Below w.heap.size w w' := by
  obtain ⟨hne, hp, ⟨D, hown, hrep⟩, _⟩ := h
  obtain ⟨hat, hhas⟩ := hrep.away hg
  obtain ⟨W1, hW1, pr, hb1⟩ := made_blk w #[.int .i64 0, .string ⟨#[]⟩, .slice none 0 0, .bool false, .slice none 0 0, .slice none 0 0] 35
  obtain ⟨Br, hBr⟩ : ∃ b, b = w.heap.size := ⟨_, rfl⟩
  have c0 := (hp.below hb1).cell 0
  simp only [List.getElem?_toArray, List.getElem?_cons_zero] at c0
  have HO := Lib.hid (hown.kept (gb_of_below hb1 none) (by simp))
  have HA := Lib.hid hat
  have HH := Lib.hid hhas
  have HG := Lib.hid hBr
  rw [← hBr] at pr
  clear hown hat hhas hrep hp hg
  go_enter Try.func19, Try.ntmps19
  go_upto_region 3 with (fail)
  rw [← hW1, ← hBr]
  clear hW1 hBr
  go_upto_region 4 with (at_lookup; go_loud (refine wpList_look (P := Try.prog) _ rfl _ _ 59 rfl 9 70 sKeyed Try.underlying59 (Try.zeroValue70 _) M _ D rfl HO.out _ _ rfl (keyOf_string_mk Try.underlying9 (Nat.le_trans hnm (by decide))) _ _ HA.out HH.out ?_))
  obtain ⟨W2, hW2, pk, hb2⟩ := made_blk W1 #[.int .i64 0, .string ⟨#[]⟩, .slice none 0 0, .bool false, .slice none 0 0, .slice none 0 0, .int .i64 0] 70
  obtain ⟨Bk, hBk⟩ : ∃ b, b = W1.heap.size := ⟨_, rfl⟩
  rw [← hW2, ← hBk]
  have hbw := below_on hb1 hb2
  have pr3 := pr.below hb2
  clear hW2 hBk c0 pk
  have g0 := pr3.free 0
  have g1 := pr3.free 1
  have g2 := pr3.free 2
  have g3 := pr3.free 3
  have g4 := pr3.free 4
  have g5 := pr3.free 5
  obtain ⟨x0, x1, x2, x3, x4, x5⟩ := pr3.six
  go_wp2_with fail
  refine bodyPost_ret (results_tree2 rfl _ _ Br _ _ _ _ _ _ _ rfl ((((((pr3.put 0 _).put 1 _).put 2 _).put 3 _).put 4 _).put 5 _)) rfl ?_
  have hB : w.heap.size ≤ Br := by rw [HG.out]; exact Nat.le_refl _
  exact ⟨rfl, (((((hbw.setCell hB _).setCell hB _).setCell hB _).setCell hB _).setCell hB _).setCell hB _⟩
set_option maxRecDepth 100000 in
set_option maxHeartbeats 800000 in
theorem get_here (h : StoreAt w P M R L) (nm : ByteArray) (hnm : nm.size ≤ 1048576) {t : T} (hg : lget nm L = some t) :
    Calls Try.prog 19 #[.pointer (some ⟨P, 0, none⟩), .string nm] w fun e w' => ∃ c, e = .returned (.tuple #[kv c, .bool true]) ∧ T.New w' t.cp w.heap.size w'.heap.size c ∧ Below w.heap.size w w' := by
  obtain ⟨hne, hp, ⟨D, hown, hrep⟩, _, _, hbk, _⟩ := h
  obtain ⟨c, hat, hhas, hin⟩ := hrep.here hg
  have hbt := (hbk _ (lget_mem hg)).1
  have hform := hin.form
  obtain ⟨A1, c1, A2, c2, A3, c3, hform, _⟩ := hform
  obtain ⟨a0, a1, a2, a3, a4, a5⟩ := c
  have hform : (Value.agg #[a0, a1, a2, a3, a4, a5]) = tv t.k t.nm A1 t.ns.length c1 t.ng A2 t.mg.length c2 A3 t.ks.length c3 := hform
  injection hform with hform
  injection hform with hform
  simp only [List.cons.injEq, and_true] at hform
  obtain ⟨rfl, rfl, rfl, rfl, rfl, rfl⟩ := hform
  have hb := below_alloc1 w (.cells #[.int .i64 0, .string ⟨#[]⟩, .slice none 0 0, .bool false, .slice none 0 0, .slice none 0 0] 35)
  obtain ⟨W1, hW1, pr, hb1⟩ := made_blk w #[.int .i64 0, .string ⟨#[]⟩, .slice none 0 0, .bool false, .slice none 0 0, .slice none 0 0] 35
  obtain ⟨Br, hBr⟩ : ∃ b, b = w.heap.size := ⟨_, rfl⟩
  have c0 := (hp.below hb1).cell 0
  simp only [List.getElem?_toArray, List.getElem?_cons_zero] at c0
  have HO := Lib.hid (hown.kept (gb_of_below hb1 none) (by simp))
  have HA := Lib.hid hat
  have HH := Lib.hid hhas
  have HI := Lib.hid hin
  have HG := Lib.hid hBr
  have hW1' := hW1
  rw [← hBr] at pr
  clear hown hat hhas hin hrep hp hg hb hbk hW1'
  go_enter Try.func19, Try.ntmps19
  go_upto_region 3 with (fail)
  rw [← hW1, ← hBr]
  clear hW1 hBr
  go_upto_region 4 with (at_lookup; go_loud (refine wpList_look (P := Try.prog) _ rfl _ _ 59 rfl 9 70 sKeyed Try.underlying59 (Try.zeroValue70 _) M _ D rfl HO.out _ _ rfl (keyOf_string_mk Try.underlying9 (Nat.le_trans hnm (by decide))) _ _ HA.out HH.out ?_))
  obtain ⟨W2, hW2, pk, hb2⟩ := made_blk W1 #[.int .i64 t.k, .string t.nm, .slice A1 t.ns.length c1, .bool t.ng, .slice A2 t.mg.length c2, .slice A3 t.ks.length c3, .int .i64 (sz t : Nat)] 70
  obtain ⟨Bk, hBk⟩ : ∃ b, b = W1.heap.size := ⟨_, rfl⟩
  rw [← hW2, ← hBk]
  rw [← hBk] at pk
  have hbw := below_on hb1 hb2
  have HIN := Lib.hid (HI.out.below hbw)
  have pr2 := pr.below hb2
  clear hW2 hBk c0
  have k0 := pk.cell 0
  have k1 := pk.cell 1
  have k2 := pk.cell 2
  have k3 := pk.cell 3
  have k4 := pk.cell 4
  have k5 := pk.cell 5
  simp only [List.getElem?_toArray, List.getElem?_cons_zero, List.getElem?_cons_succ] at k0 k1 k2 k3 k4 k5
  go_wp2_with (go_at_call 33; go_loud (refine (copy_t 1048576 t _ R _ hbt (by omega) HIN.out).mono ?_); rintro e w3 ⟨c, rfl, hNew, hb3⟩; obtain ⟨q, hq⟩ : ∃ q, T.cp t = q := ⟨_, rfl⟩; rw [hq] at hNew; have HQ := Lib.hid hq; clear hq; have HNEW := Lib.hid hNew; obtain ⟨F1, f1, F2, f2, F3, f3, rfl⟩ := hNew.form; clear hNew; have pr3 := pr2.below hb3; have g0 := pr3.free 0; have g1 := pr3.free 1; have g2 := pr3.free 2; have g3 := pr3.free 3; have g4 := pr3.free 4; have g5 := pr3.free 5; obtain ⟨x0, x1, x2, x3, x4, x5⟩ := pr3.six)
  refine bodyPost_ret (results_tree2 rfl _ _ Br _ _ _ _ _ _ _ rfl ((((((pr3.put 0 _).put 1 _).put 2 _).put 3 _).put 4 _).put 5 _)) rfl ?_
  refine ⟨tc q.k q.nm F1 q.ns.length f1 q.ng F2 q.mg.length f2 F3 q.ks.length f3, rfl, ?_, ?_⟩
  · rw [HQ.out]
    have hlt := pr2.lt
    have hsz := hbw.size
    refine T.New.wide (lo := W2.heap.size) (hi := w3.heap.size) (T.New.keep (w := w3) _ _ _ _ HNEW.out (fun b h1 _ => ?_)) hsz (by simp only [World.size_setCell]; exact Nat.le_refl _)
    have h2 : b ≠ Br := by omega
    exact (((((Below.heap_setCell _ ⟨Br, 5, none⟩ _ _ h2).trans (Below.heap_setCell _ ⟨Br, 4, none⟩ _ _ h2)).trans (Below.heap_setCell _ ⟨Br, 3, none⟩ _ _ h2)).trans (Below.heap_setCell _ ⟨Br, 2, none⟩ _ _ h2)).trans (Below.heap_setCell _ ⟨Br, 1, none⟩ _ _ h2)).trans (Below.heap_setCell _ ⟨Br, 0, none⟩ _ _ h2)
  · have hB : w.heap.size ≤ Br := by rw [HG.out]; exact Nat.le_refl _
    have hbb := below_on hbw hb3
    exact (((((hbb.setCell hB _).setCell hB _).setCell hB _).setCell hB _).setCell hB _).setCell hB _
end
end Go.Proofs.Ytmncamnlmpajbaa

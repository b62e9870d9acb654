/-
  l: the parts WFree0 WBuild WByteD WBld.
-/
import Derived.Test.YthiadenmljbdaaaGreatDoorB8l
import Derived.Test.YthiadenmljbdaaaGreatDoorB14l
import Derived.Maps.OwnSet
import Derived.Maps.OwnOps
import Derived.Maps.Views
import Derived.Sort.KeysCollected
import Derived.Deep.CutRange
import Derived.Test.YthiadenmljbdaaaGreatDoorB6l
import Derived.Lib.Builder
import Derived.Lib.OthersKept
import Derived.Lib.Strings
import Derived.Shelf.Strings.Builder1
import Derived.Laws.Externs
import Derived.Defers
namespace Go.Proofs.YthiadenmljbdaaaGreatDoor
section
open Go.RowKit
open Go.Shelf Go.Maps Go.Sort Go.WideMaps
def cntL (ns : List ByteArray) (x : List UInt8) : Int := ((ns.filter (fun s => decide (s.data.toList = x))).length : Nat)
def bnd (k : Int) (ns : List ByteArray) (β : List UInt8 → Int) : List UInt8 → Int := if k = 21 ∨ k = 22 then fun y => β y + cntL ns y else β
mutual
def T.fv : T → (List UInt8 → Int) → List UInt8 → Bool
 | .node k nm ns _ _ ks, β, x => ((k == 2) && ((β nm.data.toList == 0) && decide (x = nm.data.toList))) || T.fvs ks (bnd k ns β) x
def T.fvs : List T → (List UInt8 → Int) → List UInt8 → Bool
 | [], _, _ => false
 | t :: r, β, x => T.fv t β x || T.fvs r β x
end
theorem T.fv_eq (t : T) (β : List UInt8 → Int) (x : List UInt8) : t.fv β x = (((t.k == 2) && ((β t.nm.data.toList == 0) && decide (x = t.nm.data.toList))) || T.fvs t.ks (bnd t.k t.ns β) x) := by cases t; rw [T.fv]; rfl
theorem T.fvs_snoc (β : List UInt8 → Int) (x : List UInt8) : ∀ (l : List T) (t : T), T.fvs (l ++ [t]) β x = (T.fvs l β x || t.fv β x)
 | [], t => by simp [T.fvs]
 | u :: r, t => by simp [T.fvs, T.fvs_snoc β x r t, Bool.or_assoc]
theorem T.bulks_snoc : ∀ (l : List T) (t : T), T.bulks (l ++ [t]) = T.bulks l + t.bulk
 | [], t => by simp [T.bulks]
 | u :: r, t => by simp [T.bulks, T.bulks_snoc r t]; omega
theorem T.bulks_in : ∀ (l : List T) (i : Nat), i < l.length → T.bulks (l.take i) + (l.getD i t0).bulk ≤ T.bulks l
 | [], _, h => absurd h (by simp)
 | t :: r, 0, _ => by simp [T.bulks]
 | t :: r, i + 1, h => by
  have := T.bulks_in r i (by simpa using h)
  simp [T.bulks] at this ⊢
  omega
theorem cntL_nonneg (ns : List ByteArray) (x : List UInt8) : 0 ≤ cntL ns x := Int.natCast_nonneg _
theorem cntL_le (ns : List ByteArray) (x : List UInt8) : cntL ns x ≤ ns.length := by
 have := List.length_filter_le (fun s : ByteArray => decide (s.data.toList = x)) ns
 unfold cntL
 omega
theorem cntL_snoc (ns : List ByteArray) (s : ByteArray) (x : List UInt8) : cntL (ns ++ [s]) x = cntL ns x + (if s.data.toList = x then 1 else 0) := by
 unfold cntL
 rw [List.filter_append, List.length_append]
 by_cases h : s.data.toList = x
 · rw [if_pos h, List.filter_cons_of_pos (by simpa using h)]; simp
 · rw [if_neg h, List.filter_cons_of_neg (by simpa using h)]; simp
theorem cntL_nil (x : List UInt8) : cntL [] x = 0 := rfl
abbrev DU := DataW Unit
abbrev BM (w : World) (b n : Nat) (D : DU) : Prop := w.ownsMap Tryz.prog 9 (plainElem Tryz.prog 3) b n D
abbrev FM (w : World) (b n : Nat) (D : DU) : Prop := w.ownsMap Tryz.prog 9 unitElem b n D
def Cnt (D : DU) (β : List UInt8 → Int) : Prop := ∀ x, D.atKey (.string x) (.lit (.int .i64 0)) = .lit (.int .i64 (β x))
def Fnd (D : DU) (φ : List UInt8 → Bool) : Prop := ∀ x, Maps.has D (.string x) = φ x
theorem lawS : Keyed Tryz.prog 9 := string_keyed Tryz.underlying9
theorem zeroI (w : World) : (zeroValue 3).run Tryz.prog w = .ok (.int .i64 0) w := by kernel_rfl
theorem isKeyS {s : ByteArray} (h : s.size ≤ maxLen) : WideAt.IsKeyLit (.string s.data.toList) := lawS.key (keyOf_string_mk Tryz.underlying9 h)
theorem Cnt.at {D : DU} {β : List UInt8 → Int} (h : Cnt D β) {x : List UInt8} {c : Int} (hat : D.atKey (.string x) (.lit (.int .i64 0)) = .lit (.int .i64 c)) : c = β x := by
 rw [h x] at hat
 injection hat with hat
 injection hat with _ hat
 exact hat.symm
theorem Cnt.put {D : DU} {β β' : List UInt8 → Int} (h : Cnt D β) (hD : IsMap D) {s : ByteArray} (hs : s.size ≤ maxLen) (h1 : ∀ x, s.data.toList ≠ x → β' x = β x) : Cnt (D.put (.string s.data.toList) (.lit (.int .i64 (β' s.data.toList)))) β' := fun x => by
 by_cases hx : s.data.toList = x
 · subst hx
   exact atKey_put_same hD (isKeyS hs) _ _
 · rw [atKey_put_other (fun e => hx (by injection e with e; exact e.symm)), h x, h1 x hx]
theorem Fnd.put {D : DU} {φ : List UInt8 → Bool} (h : Fnd D φ) (hD : IsMap D) {s : ByteArray} (hs : s.size ≤ maxLen) (d : DU) : Fnd (D.put (.string s.data.toList) d) (fun x => φ x || decide (x = s.data.toList)) := fun x => by
 by_cases hx : x = s.data.toList
 · subst hx
   rw [has_put_same hD (isKeyS hs)]; simp
 · rw [has_put_other (fun e => hx (by injection e)), h x]
   simp [hx]
def MK (bm fm : Nat) (w w' : World) : Prop := ∀ k o, w.heap[k]? = some o → k ≠ bm → k ≠ fm → w'.heap[k]? = some o
section
variable {bm fm : Nat} {a w w' : World}
theorem MK.refl (w : World) : MK bm fm w w := fun _ _ h _ _ => h
theorem MK.trans (h : MK bm fm a w) (h' : MK bm fm w w') : MK bm fm a w' := fun k o hk h1 h2 => h' k o (h k o hk h1 h2) h1 h2
theorem MK.below (h : Below w.heap.size w w') : MK bm fm w w' := fun k _ hk _ _ => (h.block k (Array.getElem?_eq_some_iff.1 hk).1).trans hk
theorem MK.grown {g : Nat} (h : w.grownBy w' (some g)) (hg : g = bm ∨ g = fm) : MK bm fm w w' := fun k _ hk h1 h2 => (h.block k (Array.getElem?_eq_some_iff.1 hk).1 (fun e => by injection e with e; omega)).trans hk
theorem MK.blk {b : Nat} {t : TypeId} {cs : Array Value} (h : MK bm fm w w') (hb : Blk w b t cs) (h1 : b ≠ bm) (h2 : b ≠ fm) : Blk w' b t cs := h b _ hb h1 h2
end
theorem below_map {B g : Nat} {a w w' : World} (h : Below B a w) (hg : w.grownBy w' (some g)) (hB : B ≤ g) (hB2 : B ≤ w.heap.size) : Below B a w' := h.grown hg hB2 (fun k hk => by injection hk with hk; omega)
theorem wpList_lookup_g {P : Program} (w : World) {ops : Array Oper} {rest : List Oper} {o : Oper} {a : Act} {Q : Exit → Act → World → Prop}
    (hw : Region.wanted o (yielded ops a.tmps) = true) (m x : Operand) (t : TypeId) (hop : o.op = Op.lookup t m x false)
    (k e : TypeId) (q : IntKind) (K : Keyed P k) (ht : P.underlying t = some (.map k e)) (he : P.underlying e = some (.int q)) (hz : (zeroValue e).run P w = .ok (.int q 0) w) (b n : Nat) (D : DU)
    (hm : a.eval m = .map (some b)) (hown : w.ownsMap P k (plainElem P e) b n D) (key : Value) (kl : Lit) (hx : a.eval x = key) (hkey : keyOf P k key = some kl)
    (hK : ∀ c : Int, D.atKey kl (.lit (.int q 0)) = .lit (.int q c) → (Lit.int q c).wf = true → wpList P ops Q rest (a.put o.dst (.int q c)) w) :
    wpList P ops Q (o :: rest) a w := by
  refine wpList_step fun K' hK' => ?_
  rw [if_pos hw]
  obtain ⟨c, hrun, hat, hwc⟩ := hown.lookup_int K ht he hz hkey
  unfold Oper.wp
  simp [execOp, hop, hm, hx, hrun, Result.andThen]
  exact hK' _ _ (hK c hat hwc)
def FreeW (N : Nat) : Prop := ∀ (t : T) (w : World) (R : Nat → Prop) (v : Value) (B bm fm n m : Nat) (Db Df : DU) (β : List UInt8 → Int) (φ : List UInt8 → Bool), t.bulk ≤ N → N ≤ 1048576 → T.In w R t v → (∀ g, R g → g < B) → B ≤ bm → B ≤ fm → bm ≠ fm → B ≤ w.heap.size →
    BM w bm n Db → FM w fm m Df → Cnt Db β → Fnd Df φ → (∀ x, 0 ≤ β x ∧ β x + t.bulk ≤ 4194304) → n + 2 * t.bulk ≤ 1099511627776 → m + t.bulk ≤ 1099511627776 →
    Calls Tryz.prog 60 #[v, .map (some bm), .map (some fm)] w fun e w' => e = .returned (.tuple #[]) ∧ ∃ (D E : DU), BM w' bm (n + 2 * t.bulk) D ∧ FM w' fm (m + t.bulk) E ∧ Cnt D β ∧ Fnd E (fun x => φ x || t.fv β x) ∧ Below B w w' ∧ MK bm fm w w'
end
section
open Go.RowKit Go.Shelf
attribute [local go_sem] Oper.semAt_some
abbrev TW : TypeId := 79
abbrev TB : TypeId := 5
theorem sizeBld : (Tryz.prog.info? 77).map (·.size) = some 2 := by kernel_rfl
theorem liesBld : liesAt Tryz.prog Tryz.prog.depth TW (2 / Tryz.prog.cellsOf TW) 0 77 1 = true := by kernel_rfl
theorem info_byte : (Tryz.prog.info? TB).map (fun i => (i.zero, i.size, i.bytes)) = some (some (.int .u8 0), 1, 1) := by kernel_rfl
set_option maxHeartbeats 1000000 in
set_option maxRecDepth 100000 in
theorem copyCheck_used (b : Nat) (w : World) (h0 : w.cell? ⟨b, 0, none⟩ = some (.pointer (some ⟨b, 0, none⟩))) :
    Calls Tryz.prog 112 #[.pointer (some ⟨b, 0, none⟩)] w fun e w' => e = .returned (.tuple #[]) ∧ w' = w := by
  obtain ⟨j, hj, _⟩ := Option.map_eq_some_iff.1 sizeBld
  go_enter Tryz.func112, Tryz.ntmps112
  go_wp2
  rw [Lib.run_neq_ptr_same w _ Tryz.underlying75 hj]
  go_wp2
  go_end0
  exact ⟨rfl, rfl⟩
set_option maxHeartbeats 1000000 in
set_option maxRecDepth 100000 in
theorem copyCheck_fresh (b : Nat) (w : World) (h0 : w.cell? ⟨b, 0, none⟩ = some (.pointer none)) (hsh : w.shape? b = some (TW, 2)) (hfz : w.frozen? ⟨b, 0, none⟩ = false) :
    Calls Tryz.prog 112 #[.pointer (some ⟨b, 0, none⟩)] w fun e w' => e = .returned (.tuple #[]) ∧ w' = w.setCell ⟨b, 0, none⟩ (.pointer (some ⟨b, 0, none⟩)) := by
  obtain ⟨j, hj, hjs⟩ := Option.map_eq_some_iff.1 sizeBld
  go_enter Tryz.func112, Tryz.ntmps112
  go_wp2
  rw [Lib.run_to_unsafe w ⟨b, 0, none⟩ Tryz.underlying75 Tryz.underlying165 hj (by rw [hjs]; decide) hsh (Nat.zero_lt_succ 1)]
  simp only [Result.andThen]
  rw [Oper.upon_value]
  go_wp2
  rw [run_callFunc_extern Tryz.func145 (by kernel_rfl) (by kernel_rfl) (by kernel_rfl) (e := Extern.AbiNoEscape.same) (by kernel_rfl)]
  rw [Lib.run_noEscape]
  simp only [Result.andThen]
  rw [Oper.upon_value]
  go_wp2
  rw [Lib.run_from_unsafe w ⟨b, 0, none⟩ Tryz.underlying165 Tryz.underlying75 hj hsh liesBld]
  simp only [Result.andThen]
  rw [Oper.upon_value]
  go_wp2
  go_end0
  exact ⟨rfl, rfl⟩
theorem copyCheck_w (B b : Nat) (bs : List Value) (w : World) (h : Lib.IsBuilder TW TB B b bs w) :
    Calls Tryz.prog 112 #[.pointer (some ⟨b, 0, none⟩)] w fun e w' => e = .returned (.tuple #[]) ∧ (Lib.BuilderAt TW TB B b (.pointer (some ⟨b, 0, none⟩)) bs w' ∧ Below B w w' ∧ Lib.OthersKept TB (some b) w w') := by
  rcases h with h | h
  · refine (copyCheck_fresh b w h.cell0 h.shape h.frozen0).mono ?_
    rintro e w' ⟨rfl, rfl⟩
    exact ⟨rfl, h.used _, (Below.refl B w).setCell (p := ⟨b, 0, none⟩) h.1 _, (Lib.OthersKept.refl _ _ w).setCell ⟨b, 0, none⟩ rfl _⟩
  · refine (copyCheck_used b w h.cell0).mono ?_
    rintro e w' ⟨rfl, rfl⟩
    exact ⟨rfl, h, Below.refl B _, Lib.OthersKept.refl _ _ _⟩
set_option maxHeartbeats 1000000 in
set_option maxRecDepth 100000 in
theorem len_w (B b : Nat) (bs : List Value) (w : World) (h : Lib.IsBuilder TW TB B b bs w) :
    Calls Tryz.prog 44 #[.pointer (some ⟨b, 0, none⟩)] w fun e w' => e = .returned (.int .i64 bs.length) ∧ w' = w := by
  obtain ⟨p, hB, v, hbk, hown, hne⟩ : ∃ p, Lib.BuilderAt TW TB B b p bs w := by
   rcases h with h | h
   · exact ⟨_, h⟩
   · exact ⟨_, h⟩
  obtain ⟨ao, cap, rfl⟩ : ∃ ao cap, v = .slice ao bs.length cap := by
   rcases hown.2 with ⟨hv, h0⟩ | ⟨g, cap, cur, hv, _⟩
   · exact ⟨none, 0, by rw [hv, h0]⟩
   · exact ⟨_, _, hv⟩
  have c1 : w.cell? ⟨b, 1, none⟩ = some (.slice ao bs.length cap) := by rw [Lib.cell_of_heap hbk]; rfl
  go_enter Tryz.func44, Tryz.ntmps44
  go_wp2
  go_ret
  exact ⟨rfl, rfl⟩
theorem own_kind {w : World} {B : Nat} {e : TypeId} {v : Value} {n : Nat} {xs : List Value} (h : w.ownsRow B e 1 v n xs) : ∀ g, v.ownBlock = some g → ∃ c fz, w.heap[g]? = some (.cells c e fz) := by
 intro g hg
 rcases h.2 with ⟨rfl, _⟩ | ⟨g', cap, cur, rfl, _, hh, _⟩
 · simp [Value.ownBlock] at hg
 · have : g' = g := by simpa [Value.ownBlock] using hg
   exact ⟨cur, _, this ▸ hh⟩
theorem neWB : TW ≠ TB := by decide
set_option maxHeartbeats 2000000 in
set_option maxRecDepth 100000 in
theorem wbyte_w (B b : Nat) (bs : List Value) (c : Int) (w : World) (h : Lib.IsBuilder TW TB B b bs w) (hlen : bs.length + 1 ≤ 140737488355328) (hBw : B ≤ w.heap.size) :
    Calls Tryz.prog 76 #[.pointer (some ⟨b, 0, none⟩), .int .u8 c] w fun e w' => e = .returned .nilIface ∧ (Lib.BuilderAt TW TB B b (.pointer (some ⟨b, 0, none⟩)) (bs ++ [.int .u8 c]) w' ∧ Below B w w' ∧ Lib.OthersKept TB (some b) w w') := by
  obtain ⟨i0, hi, hz0, hz1, hz2⟩ := info_parts info_byte
  go_enter Tryz.func76, Tryz.ntmps76
  go_wp2_with (go_at_call 112; refine (copyCheck_w B b bs _ h).mono ?_)
  rintro e w1 ⟨rfl, h1, hb1, hk1⟩
  obtain ⟨hB, v, hbk, hown, hne⟩ := h1
  have c0 : w1.cell? ⟨b, 0, none⟩ = some (.pointer (some ⟨b, 0, none⟩)) := by rw [Lib.cell_of_heap hbk]; rfl
  have c1 : w1.cell? ⟨b, 1, none⟩ = some v := by rw [Lib.cell_of_heap hbk]; rfl
  go_wp2_with (at_builtin; refine wpList_append_own _ rfl _ _ 71 rfl B TB i0 (.int .u8 0) 1 1 Tryz.underlying71 hi hz0 hz1 hz2 rfl (by decide) _ _ _ rfl (hown.alloc _) ⟨w1.heap.size, 0, none⟩ 1 1 [.int .u8 c] rfl rfl ?c1 ?c2 ?c3 ?c4 ?c5 ?_)
  case c1 =>
   intro j u hj
   match j, hj with
   | 0, hj => simp at hj; subst hj; simp [Addr.add]
  case c2 => intro u hu; simp at hu; subst hu; rfl
  case c3 => unfold maxLen; omega
  case c4 => omega
  case c5 => have := hb1.size; simp; omega
  intro v' w2 hown' hgrow _
  have hlt : b < w1.heap.size := by
   rcases Nat.lt_or_ge b w1.heap.size with h' | h'
   · exact h'
   · simp [Array.getElem?_eq_none h'] at hbk
  have hb2 : w2.heap[b]? = some (.cells #[.pointer (some ⟨b, 0, none⟩), v] TW (0, 0)) := by
   rw [hgrow.block b (by simp; omega) (fun e => hne e.symm), Lib.alloc_old w1 _ b hlt]
   exact hbk
  have d0 : w2.cell? ⟨b, 0, none⟩ = some (.pointer (some ⟨b, 0, none⟩)) := by rw [Lib.cell_of_heap hb2]; rfl
  have d1 : w2.cell? ⟨b, 1, none⟩ = some v := by rw [Lib.cell_of_heap hb2]; rfl
  have f1 : w2.frozen? ⟨b, 1, none⟩ = false := Lib.frozen_of_heap hb2 1
  obtain ⟨g, cap, rfl⟩ : ∃ g cap, v' = .slice (some ⟨g, 0, none⟩) (bs.length + 1) cap := by
   rcases hown'.2 with ⟨_, h0⟩ | ⟨g, cap, cur, hv, _⟩
   · omega
   · exact ⟨g, cap, hv⟩
  go_wp2
  go_ret
  refine ⟨rfl, ?_, ?_, ((hk1.alloc _).grown hgrow (own_kind (hown.alloc _))).setCell ⟨b, 1, none⟩ rfl _⟩
  · exact Lib.BuilderAt.put (T := TW) (e := TB) hB hb2 (bs' := bs ++ [.int .u8 c]) (by simpa using hown') neWB
  · exact ((hb1.alloc (by have := hb1.size; omega) _).grown hgrow (by have := hb1.size; simp; omega) (fun k hk => (hown.lt k hk).1)).setCell (p := ⟨b, 1, none⟩) hB _
set_option maxHeartbeats 2000000 in
set_option maxRecDepth 100000 in
theorem wstr_w (B b : Nat) (bs : List Value) (s : ByteArray) (w : World) (h : Lib.IsBuilder TW TB B b bs w) (hlen : bs.length + s.size ≤ 140737488355328) (hBw : B ≤ w.heap.size) :
    Calls Tryz.prog 78 #[.pointer (some ⟨b, 0, none⟩), .string s] w fun e w' => e = .returned (.tuple #[.int .i64 s.size, .nilIface]) ∧ (Lib.BuilderAt TW TB B b (.pointer (some ⟨b, 0, none⟩)) (bs ++ Lib.strCells s) w' ∧ Below B w w' ∧ Lib.OthersKept TB (some b) w w') := by
  obtain ⟨i0, hi, hz0, hz1, hz2⟩ := info_parts info_byte
  go_enter Tryz.func78, Tryz.ntmps78
  go_wp2_with (go_at_call 112; refine (copyCheck_w B b bs _ h).mono ?_)
  rintro e w1 ⟨rfl, h1, hb1, hk1⟩
  obtain ⟨hB, v, hbk, hown, hne⟩ := h1
  have c0 : w1.cell? ⟨b, 0, none⟩ = some (.pointer (some ⟨b, 0, none⟩)) := by rw [Lib.cell_of_heap hbk]; rfl
  have c1 : w1.cell? ⟨b, 1, none⟩ = some v := by rw [Lib.cell_of_heap hbk]; rfl
  go_wp2_with (at_builtin; refine Lib.wpList_append_own_string _ rfl _ _ 71 9 rfl B TB i0 Tryz.underlying71 Tryz.underlying9 hi hz0 hz1 hz2 _ _ _ rfl hown s rfl ?c3 ?c4 ?c5 ?_)
  case c3 => unfold maxLen; omega
  case c4 => omega
  case c5 => have := hb1.size; omega
  intro v' w2 hown' hgrow _
  have hlt : b < w1.heap.size := by
   rcases Nat.lt_or_ge b w1.heap.size with h' | h'
   · exact h'
   · simp [Array.getElem?_eq_none h'] at hbk
  have hb2 : w2.heap[b]? = some (.cells #[.pointer (some ⟨b, 0, none⟩), v] TW (0, 0)) := by
   rw [hgrow.block b hlt (fun e => hne e.symm)]
   exact hbk
  have d0 : w2.cell? ⟨b, 0, none⟩ = some (.pointer (some ⟨b, 0, none⟩)) := by rw [Lib.cell_of_heap hb2]; rfl
  have d1 : w2.cell? ⟨b, 1, none⟩ = some v := by rw [Lib.cell_of_heap hb2]; rfl
  have f1 : w2.frozen? ⟨b, 1, none⟩ = false := Lib.frozen_of_heap hb2 1
  obtain ⟨ao, n', cap, rfl⟩ : ∃ ao n' cap, v' = .slice ao n' cap := by
   rcases hown'.2 with ⟨hv, _⟩ | ⟨g, cap, cur, hv, _⟩
   · exact ⟨_, _, _, hv⟩
   · exact ⟨_, _, _, hv⟩
  go_wp2
  go_ret2
  refine ⟨rfl, ?_, ?_, (hk1.grown hgrow (own_kind hown)).setCell ⟨b, 1, none⟩ rfl _⟩
  · exact Lib.BuilderAt.put (T := TW) (e := TB) hB hb2 (bs' := bs ++ Lib.strCells s) (by simpa [Lib.strCells_length] using hown') neWB
  · exact (hb1.grown hgrow (by have := hb1.size; omega) (fun k hk => (hown.lt k hk).1)).setCell (p := ⟨b, 1, none⟩) hB _
theorem cellsByte : Tryz.prog.cellsOf TB = 1 := by kernel_rfl
set_option maxHeartbeats 2000000 in
set_option maxRecDepth 100000 in
theorem string_w (B b : Nat) (l : List UInt8) (w : World) (h : Lib.IsBuilder TW TB B b (Lib.byteCells l) w) (h0 : l ≠ []) :
    Calls Tryz.prog 45 #[.pointer (some ⟨b, 0, none⟩)] w fun e w' => e = .returned (.string ⟨l.toArray⟩) ∧ Below B w w' := by
  obtain ⟨p, hB, v, hbk, hown, hne⟩ : ∃ p, Lib.BuilderAt TW TB B b p (Lib.byteCells l) w := by
   rcases h with h | h
   · exact ⟨_, h⟩
   · exact ⟨_, h⟩
  have hl0 : l.length ≠ 0 := by simpa using h0
  rw [Lib.byteCells_length] at hown
  obtain ⟨g, cap, cur, rfl, hbg, hg, hnc, hcm, hcs, htake⟩ : ∃ g cap cur, v = .slice (some ⟨g, 0, none⟩) l.length cap ∧ B ≤ g ∧ w.heap[g]? = some (.cells cur TB (0, 0)) ∧ l.length ≤ cap ∧ cap ≤ maxLen ∧ cur.size = cap * 1 ∧ cur.toList.take (l.length * 1) = Lib.byteCells l := by
   rcases hown.2 with ⟨_, hz⟩ | ⟨g, cap, cur, hv, r⟩
   · exact absurd hz hl0
   · exact ⟨g, cap, cur, hv, r⟩
  have c1 : w.drew.cell? ⟨b, 1, none⟩ = some (.slice (some ⟨g, 0, none⟩) l.length cap) := by
   have : w.drew.heap[b]? = some (.cells #[p, .slice (some ⟨g, 0, none⟩) l.length cap] TW (0, 0)) := hbk
   rw [Lib.cell_of_heap this]; rfl
  have hSD : (Builtin.unsafeSliceData_ #[71] 114 #[.slice (some ⟨g, 0, none⟩) l.length cap]).run Tryz.prog w.drew = .ok (.pointer (some ⟨g, 0, none⟩)) w.drew :=
   Lib.run_unsafeSliceData_row _ _ _ _ _ _ (by omega)
  have hUS : (Builtin.unsafeString_ #[114, 3] 9 #[.pointer (some ⟨g, 0, none⟩), .int .i64 l.length]).run Tryz.prog w.drew = .ok (.string ⟨l.toArray⟩) (w.drew.freeze ⟨g, 0, none⟩ l.length) := by
   refine Lib.run_unsafeString_row w.drew 114 3 9 TB Tryz.underlying114 cellsByte g cur.size (by have hg' : w.drew.heap[g]? = some (.cells cur TB (0, 0)) := hg; simp [World.shape?, hg']) l h0 (by omega) (by unfold maxLen at hcm; omega) ?_
   intro j x hx
   have := hown.cells (g := g) rfl j (.int .u8 x.toNat) (by simp [Lib.byteCells, hx])
   exact this
  go_enter Tryz.func45, Tryz.ntmps45
  go_wp2
  go_region
  all_goals (go_wp2; go_ret; exact ⟨rfl, Lib.below_freeze (Below.drew (Below.refl B w)) (p := ⟨g, 0, none⟩) hbg _⟩)
end
section
open Go.RowKit Go.Shelf
attribute [local go_sem] Oper.semAt_some
set_option maxHeartbeats 2000000 in
set_option maxRecDepth 100000 in
theorem wbyte_d (B b : Nat) (bs : List Value) (c : Int) (w : World) (h : Lib.IsBuilder TW TB B b bs w) (hlen : bs.length + 1 ≤ 140737488355328) (hBw : B ≤ w.heap.size) (u : FrameMode) :
    CallsD Tryz.prog 76 #[.pointer (some ⟨b, 0, none⟩), .int .u8 c] u w fun e u' w' => u' = u ∧ e = .returned .nilIface ∧ (Lib.BuilderAt TW TB B b (.pointer (some ⟨b, 0, none⟩)) (bs ++ [.int .u8 c]) w' ∧ Below B w w' ∧ Lib.OthersKept TB (some b) w w') := by
  obtain ⟨i0, hi, hz0, hz1, hz2⟩ := info_parts info_byte
  go_enter_d Tryz.func76, Tryz.ntmps76
  go_wp2_with (go_at_call 112; refine (copyCheck_w B b bs _ h).mono ?_)
  rintro e w1 ⟨rfl, h1, hb1, hk1⟩
  obtain ⟨hB, v, hbk, hown, hne⟩ := h1
  have c0 : w1.cell? ⟨b, 0, none⟩ = some (.pointer (some ⟨b, 0, none⟩)) := by rw [Lib.cell_of_heap hbk]; rfl
  have c1 : w1.cell? ⟨b, 1, none⟩ = some v := by rw [Lib.cell_of_heap hbk]; rfl
  go_wp2_with (at_builtin; refine wpList_append_own _ rfl _ _ 71 rfl B TB i0 (.int .u8 0) 1 1 Tryz.underlying71 hi hz0 hz1 hz2 rfl (by decide) _ _ _ rfl (hown.alloc _) ⟨w1.heap.size, 0, none⟩ 1 1 [.int .u8 c] rfl rfl ?c1 ?c2 ?c3 ?c4 ?c5 ?_)
  case c1 =>
   intro j u hj
   match j, hj with
   | 0, hj => simp at hj; subst hj; simp [Addr.add]
  case c2 => intro u hu; simp at hu; subst hu; rfl
  case c3 => unfold maxLen; omega
  case c4 => omega
  case c5 => have := hb1.size; simp; omega
  intro v' w2 hown' hgrow _
  have hlt : b < w1.heap.size := by
   rcases Nat.lt_or_ge b w1.heap.size with h' | h'
   · exact h'
   · simp [Array.getElem?_eq_none h'] at hbk
  have hb2 : w2.heap[b]? = some (.cells #[.pointer (some ⟨b, 0, none⟩), v] TW (0, 0)) := by
   rw [hgrow.block b (by simp; omega) (fun e => hne e.symm), Lib.alloc_old w1 _ b hlt]
   exact hbk
  have d0 : w2.cell? ⟨b, 0, none⟩ = some (.pointer (some ⟨b, 0, none⟩)) := by rw [Lib.cell_of_heap hb2]; rfl
  have d1 : w2.cell? ⟨b, 1, none⟩ = some v := by rw [Lib.cell_of_heap hb2]; rfl
  have f1 : w2.frozen? ⟨b, 1, none⟩ = false := Lib.frozen_of_heap hb2 1
  obtain ⟨g, cap, rfl⟩ : ∃ g cap, v' = .slice (some ⟨g, 0, none⟩) (bs.length + 1) cap := by
   rcases hown'.2 with ⟨_, h0⟩ | ⟨g, cap, cur, hv, _⟩
   · omega
   · exact ⟨g, cap, hv⟩
  go_wp2
  go_ret
  refine ⟨rfl, ?_, ?_, ((hk1.alloc _).grown hgrow (own_kind (hown.alloc _))).setCell ⟨b, 1, none⟩ rfl _⟩
  · exact Lib.BuilderAt.put (T := TW) (e := TB) hB hb2 (bs' := bs ++ [.int .u8 c]) (by simpa using hown') neWB
  · exact ((hb1.alloc (by have := hb1.size; omega) _).grown hgrow (by have := hb1.size; simp; omega) (fun k hk => (hown.lt k hk).1)).setCell (p := ⟨b, 1, none⟩) hB _
end
section
open Go.RowKit
open Go.Shelf
attribute [local go_sem] Oper.semAt_some
abbrev TS : TypeId := 77
theorem liesBldS : liesAt Tryz.prog Tryz.prog.depth TS (2 / Tryz.prog.cellsOf TS) 0 77 1 = true := by kernel_rfl
set_option maxHeartbeats 1000000 in
set_option maxRecDepth 100000 in
theorem copyCheck_usedS (b : Nat) (w : World) (h0 : w.cell? ⟨b, 0, none⟩ = some (.pointer (some ⟨b, 0, none⟩))) :
    Calls Tryz.prog 112 #[.pointer (some ⟨b, 0, none⟩)] w fun e w' => e = .returned (.tuple #[]) ∧ w' = w := by
  obtain ⟨j, hj, _⟩ := Option.map_eq_some_iff.1 sizeBld
  go_enter Tryz.func112, Tryz.ntmps112
  go_wp2
  rw [Lib.run_neq_ptr_same w _ Tryz.underlying75 hj]
  go_wp2
  go_end0
  exact ⟨rfl, rfl⟩
set_option maxHeartbeats 1000000 in
set_option maxRecDepth 100000 in
theorem copyCheck_freshS (b : Nat) (w : World) (h0 : w.cell? ⟨b, 0, none⟩ = some (.pointer none)) (hsh : w.shape? b = some (TS, 2)) (hfz : w.frozen? ⟨b, 0, none⟩ = false) :
    Calls Tryz.prog 112 #[.pointer (some ⟨b, 0, none⟩)] w fun e w' => e = .returned (.tuple #[]) ∧ w' = w.setCell ⟨b, 0, none⟩ (.pointer (some ⟨b, 0, none⟩)) := by
  obtain ⟨j, hj, hjs⟩ := Option.map_eq_some_iff.1 sizeBld
  go_enter Tryz.func112, Tryz.ntmps112
  go_wp2
  rw [Lib.run_to_unsafe w ⟨b, 0, none⟩ Tryz.underlying75 Tryz.underlying165 hj (by rw [hjs]; decide) hsh (Nat.zero_lt_succ 1)]
  simp only [Result.andThen]
  rw [Oper.upon_value]
  go_wp2
  rw [run_callFunc_extern Tryz.func145 (by kernel_rfl) (by kernel_rfl) (by kernel_rfl) (e := Extern.AbiNoEscape.same) (by kernel_rfl)]
  rw [Lib.run_noEscape]
  simp only [Result.andThen]
  rw [Oper.upon_value]
  go_wp2
  rw [Lib.run_from_unsafe w ⟨b, 0, none⟩ Tryz.underlying165 Tryz.underlying75 hj hsh liesBldS]
  simp only [Result.andThen]
  rw [Oper.upon_value]
  go_wp2
  go_end0
  exact ⟨rfl, rfl⟩
theorem copyCheck_s (B b : Nat) (bs : List Value) (w : World) (h : Lib.IsBuilder TS TB B b bs w) :
    Calls Tryz.prog 112 #[.pointer (some ⟨b, 0, none⟩)] w fun e w' => e = .returned (.tuple #[]) ∧ (Lib.BuilderAt TS TB B b (.pointer (some ⟨b, 0, none⟩)) bs w' ∧ Below B w w' ∧ Lib.OthersKept TB (some b) w w') := by
  rcases h with h | h
  · refine (copyCheck_freshS b w h.cell0 h.shape h.frozen0).mono ?_
    rintro e w' ⟨rfl, rfl⟩
    exact ⟨rfl, h.used _, (Below.refl B w).setCell (p := ⟨b, 0, none⟩) h.1 _, (Lib.OthersKept.refl _ _ w).setCell ⟨b, 0, none⟩ rfl _⟩
  · refine (copyCheck_usedS b w h.cell0).mono ?_
    rintro e w' ⟨rfl, rfl⟩
    exact ⟨rfl, h, Below.refl B _, Lib.OthersKept.refl _ _ _⟩
set_option maxHeartbeats 2000000 in
set_option maxRecDepth 100000 in
theorem wstr_s (B b : Nat) (bs : List Value) (s : ByteArray) (w : World) (h : Lib.IsBuilder TS TB B b bs w) (hlen : bs.length + s.size ≤ 140737488355328) (hBw : B ≤ w.heap.size) :
    Calls Tryz.prog 78 #[.pointer (some ⟨b, 0, none⟩), .string s] w fun e w' => e = .returned (.tuple #[.int .i64 s.size, .nilIface]) ∧ (Lib.BuilderAt TS TB B b (.pointer (some ⟨b, 0, none⟩)) (bs ++ Lib.strCells s) w' ∧ Below B w w' ∧ Lib.OthersKept TB (some b) w w') := by
  obtain ⟨i0, hi, hz0, hz1, hz2⟩ := info_parts info_byte
  go_enter Tryz.func78, Tryz.ntmps78
  go_wp2_with (go_at_call 112; refine (copyCheck_s B b bs _ h).mono ?_)
  rintro e w1 ⟨rfl, h1, hb1, hk1⟩
  obtain ⟨hB, v, hbk, hown, hne⟩ := h1
  have c0 : w1.cell? ⟨b, 0, none⟩ = some (.pointer (some ⟨b, 0, none⟩)) := by rw [Lib.cell_of_heap hbk]; rfl
  have c1 : w1.cell? ⟨b, 1, none⟩ = some v := by rw [Lib.cell_of_heap hbk]; rfl
  go_wp2_with (at_builtin; refine Lib.wpList_append_own_string _ rfl _ _ 71 9 rfl B TB i0 Tryz.underlying71 Tryz.underlying9 hi hz0 hz1 hz2 _ _ _ rfl hown s rfl ?c3 ?c4 ?c5 ?_)
  case c3 => unfold maxLen; omega
  case c4 => omega
  case c5 => have := hb1.size; omega
  intro v' w2 hown' hgrow _
  have hlt : b < w1.heap.size := by
   rcases Nat.lt_or_ge b w1.heap.size with h' | h'
   · exact h'
   · simp [Array.getElem?_eq_none h'] at hbk
  have hb2 : w2.heap[b]? = some (.cells #[.pointer (some ⟨b, 0, none⟩), v] TS (0, 0)) := by
   rw [hgrow.block b hlt (fun e => hne e.symm)]
   exact hbk
  have d0 : w2.cell? ⟨b, 0, none⟩ = some (.pointer (some ⟨b, 0, none⟩)) := by rw [Lib.cell_of_heap hb2]; rfl
  have d1 : w2.cell? ⟨b, 1, none⟩ = some v := by rw [Lib.cell_of_heap hb2]; rfl
  have f1 : w2.frozen? ⟨b, 1, none⟩ = false := Lib.frozen_of_heap hb2 1
  obtain ⟨ao, n', cap, rfl⟩ : ∃ ao n' cap, v' = .slice ao n' cap := by
   rcases hown'.2 with ⟨hv, _⟩ | ⟨g, cap, cur, hv, _⟩
   · exact ⟨_, _, _, hv⟩
   · exact ⟨_, _, _, hv⟩
  go_wp2
  go_ret2
  refine ⟨rfl, ?_, ?_, (hk1.grown hgrow (own_kind hown)).setCell ⟨b, 1, none⟩ rfl _⟩
  · exact Lib.BuilderAt.put (T := TS) (e := TB) hB hb2 (bs' := bs ++ Lib.strCells s) (by simpa [Lib.strCells_length] using hown') (by decide)
  · exact (hb1.grown hgrow (by have := hb1.size; omega) (fun k hk => (hown.lt k hk).1)).setCell (p := ⟨b, 1, none⟩) hB _
theorem writeString_any (B b : Nat) (bs : List Value) (s : ByteArray) (w : World) (h : Lib.IsBuilder 77 5 B b bs w) (hlen : bs.length + s.size ≤ 140737488355328) (hBw : B ≤ w.heap.size) :
    Calls Tryz.prog 78 #[.pointer (some ⟨b, 0, none⟩), .string s] w fun e w' => e = .returned (.tuple #[.int .i64 s.size, .nilIface]) ∧ Lib.BuilderAt 77 5 B b (.pointer (some ⟨b, 0, none⟩)) (bs ++ Lib.strCells s) w' ∧ Below B w w' :=
  (wstr_s B b bs s w h hlen hBw).mono (fun _ _ h => ⟨h.1, h.2.1, h.2.2.1⟩)
end
end Go.Proofs.YthiadenmljbdaaaGreatDoor

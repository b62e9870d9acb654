/-
  q: the parts WFree0 WKn1.
-/
import Derived.Test.YthiadenmljbdaaaGreatDoorB7q
import Derived.Test.YthiadenmljbdaaaGreatDoorB14q
import Derived.Maps.OwnSet
import Derived.Maps.OwnOps
import Derived.Maps.Views
import Derived.Sort.KeysCollected
import Derived.Deep.CutRange
import Derived.Test.YthiadenmljbdaaaGreatDoorB21q
import Derived.Test.YthiadenmljbdaaaGreatDoorB11q
import Derived.Test.YthiadenmljbdaaaGreatDoorB20q
namespace Go.Proofs.YthiadenmljbdaaaGreatDoor
section
open Go.RowKit
open Go.Shelf Go.Maps Go.Sort Go.WideMaps
def cntL (ns : List ByteArray) (x : List UInt8) : Int := ((ns.filter (fun s => decide (s.data.toList = x))).length : Nat)
def bnd (k : Int) (ns : List ByteArray) (β : List UInt8 → Int) : List UInt8 → Int := if k = 21 ∨ k = 22 then fun y => β y + cntL ns y else β
mutual
def T.fv : T → (List UInt8 → Int) → List UInt8 → Bool
 | .node k nm ns _ _ ks, β, x => ((k == 2) && ((β nm.data.toList == 0) && decide (x = nm.data.toList))) || T.fvs ks (bnd k ns β) x
def T.fvs : List T → (List UInt8 → Int) → List UInt8 → Bool
 | [], _, _ => false
 | t :: r, β, x => T.fv t β x || T.fvs r β x
end
theorem T.fv_eq (t : T) (β : List UInt8 → Int) (x : List UInt8) : t.fv β x = (((t.k == 2) && ((β t.nm.data.toList == 0) && decide (x = t.nm.data.toList))) || T.fvs t.ks (bnd t.k t.ns β) x) := by cases t; rw [T.fv]; rfl
theorem T.fvs_snoc (β : List UInt8 → Int) (x : List UInt8) : ∀ (l : List T) (t : T), T.fvs (l ++ [t]) β x = (T.fvs l β x || t.fv β x)
 | [], t => by simp [T.fvs]
 | u :: r, t => by simp [T.fvs, T.fvs_snoc β x r t, Bool.or_assoc]
theorem T.bulks_snoc : ∀ (l : List T) (t : T), T.bulks (l ++ [t]) = T.bulks l + t.bulk
 | [], t => by simp [T.bulks]
 | u :: r, t => by simp [T.bulks, T.bulks_snoc r t]; omega
theorem T.bulks_in : ∀ (l : List T) (i : Nat), i < l.length → T.bulks (l.take i) + (l.getD i t0).bulk ≤ T.bulks l
 | [], _, h => absurd h (by simp)
 | t :: r, 0, _ => by simp [T.bulks]
 | t :: r, i + 1, h => by
  have := T.bulks_in r i (by simpa using h)
  simp [T.bulks] at this ⊢
  omega
theorem cntL_nonneg (ns : List ByteArray) (x : List UInt8) : 0 ≤ cntL ns x := Int.natCast_nonneg _
theorem cntL_le (ns : List ByteArray) (x : List UInt8) : cntL ns x ≤ ns.length := by
 have := List.length_filter_le (fun s : ByteArray => decide (s.data.toList = x)) ns
 unfold cntL
 omega
theorem cntL_snoc (ns : List ByteArray) (s : ByteArray) (x : List UInt8) : cntL (ns ++ [s]) x = cntL ns x + (if s.data.toList = x then 1 else 0) := by
 unfold cntL
 rw [List.filter_append, List.length_append]
 by_cases h : s.data.toList = x
 · rw [if_pos h, List.filter_cons_of_pos (by simpa using h)]; simp
 · rw [if_neg h, List.filter_cons_of_neg (by simpa using h)]; simp
theorem cntL_nil (x : List UInt8) : cntL [] x = 0 := rfl
abbrev DU := DataW Unit
abbrev BM (w : World) (b n : Nat) (D : DU) : Prop := w.ownsMap Tryz.prog 9 (plainElem Tryz.prog 3) b n D
abbrev FM (w : World) (b n : Nat) (D : DU) : Prop := w.ownsMap Tryz.prog 9 unitElem b n D
def Cnt (D : DU) (β : List UInt8 → Int) : Prop := ∀ x, D.atKey (.string x) (.lit (.int .i64 0)) = .lit (.int .i64 (β x))
def Fnd (D : DU) (φ : List UInt8 → Bool) : Prop := ∀ x, Maps.has D (.string x) = φ x
theorem lawS : Keyed Tryz.prog 9 := string_keyed Tryz.underlying9
theorem zeroI (w : World) : (zeroValue 3).run Tryz.prog w = .ok (.int .i64 0) w := by kernel_rfl
theorem isKeyS {s : ByteArray} (h : s.size ≤ maxLen) : WideAt.IsKeyLit (.string s.data.toList) := lawS.key (keyOf_string_mk Tryz.underlying9 h)
theorem Cnt.at {D : DU} {β : List UInt8 → Int} (h : Cnt D β) {x : List UInt8} {c : Int} (hat : D.atKey (.string x) (.lit (.int .i64 0)) = .lit (.int .i64 c)) : c = β x := by
 rw [h x] at hat
 injection hat with hat
 injection hat with _ hat
 exact hat.symm
theorem Cnt.put {D : DU} {β β' : List UInt8 → Int} (h : Cnt D β) (hD : IsMap D) {s : ByteArray} (hs : s.size ≤ maxLen) (h1 : ∀ x, s.data.toList ≠ x → β' x = β x) : Cnt (D.put (.string s.data.toList) (.lit (.int .i64 (β' s.data.toList)))) β' := fun x => by
 by_cases hx : s.data.toList = x
 · subst hx
   exact atKey_put_same hD (isKeyS hs) _ _
 · rw [atKey_put_other (fun e => hx (by injection e with e; exact e.symm)), h x, h1 x hx]
theorem Fnd.put {D : DU} {φ : List UInt8 → Bool} (h : Fnd D φ) (hD : IsMap D) {s : ByteArray} (hs : s.size ≤ maxLen) (d : DU) : Fnd (D.put (.string s.data.toList) d) (fun x => φ x || decide (x = s.data.toList)) := fun x => by
 by_cases hx : x = s.data.toList
 · subst hx
   rw [has_put_same hD (isKeyS hs)]; simp
 · rw [has_put_other (fun e => hx (by injection e)), h x]
   simp [hx]
def MK (bm fm : Nat) (w w' : World) : Prop := ∀ k o, w.heap[k]? = some o → k ≠ bm → k ≠ fm → w'.heap[k]? = some o
section
variable {bm fm : Nat} {a w w' : World}
theorem MK.refl (w : World) : MK bm fm w w := fun _ _ h _ _ => h
theorem MK.trans (h : MK bm fm a w) (h' : MK bm fm w w') : MK bm fm a w' := fun k o hk h1 h2 => h' k o (h k o hk h1 h2) h1 h2
theorem MK.below (h : Below w.heap.size w w') : MK bm fm w w' := fun k _ hk _ _ => (h.block k (Array.getElem?_eq_some_iff.1 hk).1).trans hk
theorem MK.grown {g : Nat} (h : w.grownBy w' (some g)) (hg : g = bm ∨ g = fm) : MK bm fm w w' := fun k _ hk h1 h2 => (h.block k (Array.getElem?_eq_some_iff.1 hk).1 (fun e => by injection e with e; omega)).trans hk
theorem MK.blk {b : Nat} {t : TypeId} {cs : Array Value} (h : MK bm fm w w') (hb : Blk w b t cs) (h1 : b ≠ bm) (h2 : b ≠ fm) : Blk w' b t cs := h b _ hb h1 h2
end
theorem below_map {B g : Nat} {a w w' : World} (h : Below B a w) (hg : w.grownBy w' (some g)) (hB : B ≤ g) (hB2 : B ≤ w.heap.size) : Below B a w' := h.grown hg hB2 (fun k hk => by injection hk with hk; omega)
theorem wpList_lookup_g {P : Program} (w : World) {ops : Array Oper} {rest : List Oper} {o : Oper} {a : Act} {Q : Exit → Act → World → Prop}
    (hw : Region.wanted o (yielded ops a.tmps) = true) (m x : Operand) (t : TypeId) (hop : o.op = Op.lookup t m x false)
    (k e : TypeId) (q : IntKind) (K : Keyed P k) (ht : P.underlying t = some (.map k e)) (he : P.underlying e = some (.int q)) (hz : (zeroValue e).run P w = .ok (.int q 0) w) (b n : Nat) (D : DU)
    (hm : a.eval m = .map (some b)) (hown : w.ownsMap P k (plainElem P e) b n D) (key : Value) (kl : Lit) (hx : a.eval x = key) (hkey : keyOf P k key = some kl)
    (hK : ∀ c : Int, D.atKey kl (.lit (.int q 0)) = .lit (.int q c) → (Lit.int q c).wf = true → wpList P ops Q rest (a.put o.dst (.int q c)) w) :
    wpList P ops Q (o :: rest) a w := by
  refine wpList_step fun K' hK' => ?_
  rw [if_pos hw]
  obtain ⟨c, hrun, hat, hwc⟩ := hown.lookup_int K ht he hz hkey
  unfold Oper.wp
  simp [execOp, hop, hm, hx, hrun, Result.andThen]
  exact hK' _ _ (hK c hat hwc)
def FreeW (N : Nat) : Prop := ∀ (t : T) (w : World) (R : Nat → Prop) (v : Value) (B bm fm n m : Nat) (Db Df : DU) (β : List UInt8 → Int) (φ : List UInt8 → Bool), t.bulk ≤ N → N ≤ 1048576 → T.In w R t v → (∀ g, R g → g < B) → B ≤ bm → B ≤ fm → bm ≠ fm → B ≤ w.heap.size →
    BM w bm n Db → FM w fm m Df → Cnt Db β → Fnd Df φ → (∀ x, 0 ≤ β x ∧ β x + t.bulk ≤ 4194304) → n + 2 * t.bulk ≤ 1099511627776 → m + t.bulk ≤ 1099511627776 →
    Calls Tryz.prog 60 #[v, .map (some bm), .map (some fm)] w fun e w' => e = .returned (.tuple #[]) ∧ ∃ (D E : DU), BM w' bm (n + 2 * t.bulk) D ∧ FM w' fm (m + t.bulk) E ∧ Cnt D β ∧ Fnd E (fun x => φ x || t.fv β x) ∧ Below B w w' ∧ MK bm fm w w'
end
section
open Go.RowKit
def knS : ByteArray := ⟨#[110, 111, 116, 40, 120, 60, 49, 41, 111, 114, 32, 115, 111, 109, 101, 32, 121, 46, 50, 32, 100, 105, 118, 105, 100, 101, 115, 32, 120, 45, 40, 121, 43, 49, 41]⟩
def knP : ByteArray := ⟨#[110, 111, 116, 32, 120, 32, 60, 32, 49, 32, 111, 114, 32, 115, 111, 109, 101, 32, 121, 32, 46, 32, 50, 32, 100, 105, 118, 105, 100, 101, 115, 32, 120, 32, 45, 32, 40, 121, 32, 43, 32, 49, 41]⟩
def knX : T := .node 2 ⟨#[120]⟩ [] false [] []
def knY : T := .node 2 ⟨#[121]⟩ [] false [] []
def kn1 : T := .node 1 ⟨#[]⟩ [] false [1] []
def knT : T := P.nd 18 [P.nd 16 [P.nd 9 [knX, kn1]], .node 21 ⟨#[]⟩ [⟨#[121]⟩] false [] [.node 15 ⟨#[]⟩ [] false [2] [P.nd 5 [knX, P.nd 4 [knY, kn1]]]]]
theorem kn_res : P.res knS = (0, 0, knT) := by kernel_rfl
theorem kn_size : knT.size = 12 := by kernel_rfl
theorem kn_chk : knT.chk = 0 := by kernel_rfl
theorem kn_said : P.said knT = knP.data.toList := by kernel_rfl
end
end Go.Proofs.YthiadenmljbdaaaGreatDoor

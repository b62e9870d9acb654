/-
  s: the parts WFree0 WKn0 WFreeO WFreeV of the proof.
-/
import Derived.Test.YthiadenmljbdaaaGreatDoorB13s
import Derived.Test.YthiadenmljbdaaaGreatDoorB12s
import Derived.Maps.OwnSet
import Derived.Maps.OwnOps
import Derived.Maps.Views
import Derived.Sort.KeysCollected
import Derived.Deep.CutRange
import Derived.Test.YthiadenmljbdaaaGreatDoorB33s
import Derived.Test.YthiadenmljbdaaaGreatDoorB22s
section
namespace Go.Proofs.YthiadenmljbdaaaGreatDoor
open Go.RowKit
open Go.Shelf Go.Maps Go.Sort Go.WideMaps
def cntL (ns : List ByteArray) (x : List UInt8) : Int := ((ns.filter (fun s => decide (s.data.toList = x))).length : Nat)
def bnd (k : Int) (ns : List ByteArray) (β : List UInt8 → Int) : List UInt8 → Int := if k = 21 ∨ k = 22 then fun y => β y + cntL ns y else β
mutual
def T.fv : T → (List UInt8 → Int) → List UInt8 → Bool
  | .node k nm ns _ _ ks, β, x => ((k == 2) && ((β nm.data.toList == 0) && decide (x = nm.data.toList))) || T.fvs ks (bnd k ns β) x
def T.fvs : List T → (List UInt8 → Int) → List UInt8 → Bool
  | [], _, _ => false
  | t :: r, β, x => T.fv t β x || T.fvs r β x
end
theorem T.fv_eq (t : T) (β : List UInt8 → Int) (x : List UInt8) : t.fv β x = (((t.k == 2) && ((β t.nm.data.toList == 0) && decide (x = t.nm.data.toList))) || T.fvs t.ks (bnd t.k t.ns β) x) := by cases t; rw [T.fv]; rfl
theorem T.fvs_snoc (β : List UInt8 → Int) (x : List UInt8) : ∀ (l : List T) (t : T), T.fvs (l ++ [t]) β x = (T.fvs l β x || t.fv β x)
  | [], t => by simp [T.fvs]
  | u :: r, t => by simp [T.fvs, T.fvs_snoc β x r t, Bool.or_assoc]
theorem T.bulks_snoc : ∀ (l : List T) (t : T), T.bulks (l ++ [t]) = T.bulks l + t.bulk
  | [], t => by simp [T.bulks]
  | u :: r, t => by simp [T.bulks, T.bulks_snoc r t]; omega
theorem T.bulks_in : ∀ (l : List T) (i : Nat), i < l.length → T.bulks (l.take i) + (l.getD i t0).bulk ≤ T.bulks l
  | [], _, h => absurd h (by simp)
  | t :: r, 0, _ => by simp [T.bulks]
  | t :: r, i + 1, h => by
    have := T.bulks_in r i (by simpa using h)
    simp [T.bulks] at this ⊢
    omega
theorem cntL_nonneg (ns : List ByteArray) (x : List UInt8) : 0 ≤ cntL ns x := Int.natCast_nonneg _
theorem cntL_le (ns : List ByteArray) (x : List UInt8) : cntL ns x ≤ ns.length := by
  have := List.length_filter_le (fun s : ByteArray => decide (s.data.toList = x)) ns
  unfold cntL
  omega
theorem cntL_snoc (ns : List ByteArray) (s : ByteArray) (x : List UInt8) : cntL (ns ++ [s]) x = cntL ns x + (if s.data.toList = x then 1 else 0) := by
  unfold cntL
  rw [List.filter_append, List.length_append]
  by_cases h : s.data.toList = x
  · rw [if_pos h, List.filter_cons_of_pos (by simpa using h)]; simp
  · rw [if_neg h, List.filter_cons_of_neg (by simpa using h)]; simp
theorem cntL_nil (x : List UInt8) : cntL [] x = 0 := rfl
abbrev DU := DataW Unit
abbrev BM (w : World) (b n : Nat) (D : DU) : Prop := w.ownsMap Tryz.prog 9 (plainElem Tryz.prog 3) b n D
abbrev FM (w : World) (b n : Nat) (D : DU) : Prop := w.ownsMap Tryz.prog 9 unitElem b n D
def Cnt (D : DU) (β : List UInt8 → Int) : Prop := ∀ x, D.atKey (.string x) (.lit (.int .i64 0)) = .lit (.int .i64 (β x))
def Fnd (D : DU) (φ : List UInt8 → Bool) : Prop := ∀ x, Maps.has D (.string x) = φ x
theorem lawS : Keyed Tryz.prog 9 := string_keyed Tryz.underlying9
theorem zeroI (w : World) : (zeroValue 3).run Tryz.prog w = .ok (.int .i64 0) w := by kernel_rfl
theorem isKeyS {s : ByteArray} (h : s.size ≤ maxLen) : WideAt.IsKeyLit (.string s.data.toList) := lawS.key (keyOf_string_mk Tryz.underlying9 h)
theorem Cnt.at {D : DU} {β : List UInt8 → Int} (h : Cnt D β) {x : List UInt8} {c : Int} (hat : D.atKey (.string x) (.lit (.int .i64 0)) = .lit (.int .i64 c)) : c = β x := by
  rw [h x] at hat
  injection hat with hat
  injection hat with _ hat
  exact hat.symm
theorem Cnt.put {D : DU} {β β' : List UInt8 → Int} (h : Cnt D β) (hD : IsMap D) {s : ByteArray} (hs : s.size ≤ maxLen) (h1 : ∀ x, s.data.toList ≠ x → β' x = β x) : Cnt (D.put (.string s.data.toList) (.lit (.int .i64 (β' s.data.toList)))) β' := fun x => by
  by_cases hx : s.data.toList = x
  · subst hx
    exact atKey_put_same hD (isKeyS hs) _ _
  · rw [atKey_put_other (fun e => hx (by injection e with e; exact e.symm)), h x, h1 x hx]
theorem Fnd.put {D : DU} {φ : List UInt8 → Bool} (h : Fnd D φ) (hD : IsMap D) {s : ByteArray} (hs : s.size ≤ maxLen) (d : DU) : Fnd (D.put (.string s.data.toList) d) (fun x => φ x || decide (x = s.data.toList)) := fun x => by
  by_cases hx : x = s.data.toList
  · subst hx
    rw [has_put_same hD (isKeyS hs)]; simp
  · rw [has_put_other (fun e => hx (by injection e)), h x]
    simp [hx]
def MK (bm fm : Nat) (w w' : World) : Prop := ∀ k o, w.heap[k]? = some o → k ≠ bm → k ≠ fm → w'.heap[k]? = some o
section
variable {bm fm : Nat} {a w w' : World}
theorem MK.refl (w : World) : MK bm fm w w := fun _ _ h _ _ => h
theorem MK.trans (h : MK bm fm a w) (h' : MK bm fm w w') : MK bm fm a w' := fun k o hk h1 h2 => h' k o (h k o hk h1 h2) h1 h2
theorem MK.below (h : Below w.heap.size w w') : MK bm fm w w' := fun k _ hk _ _ => (h.block k (Array.getElem?_eq_some_iff.1 hk).1).trans hk
theorem MK.grown {g : Nat} (h : w.grownBy w' (some g)) (hg : g = bm ∨ g = fm) : MK bm fm w w' := fun k _ hk h1 h2 => (h.block k (Array.getElem?_eq_some_iff.1 hk).1 (fun e => by injection e with e; omega)).trans hk
theorem MK.blk {b : Nat} {t : TypeId} {cs : Array Value} (h : MK bm fm w w') (hb : Blk w b t cs) (h1 : b ≠ bm) (h2 : b ≠ fm) : Blk w' b t cs := h b _ hb h1 h2
end
theorem below_map {B g : Nat} {a w w' : World} (h : Below B a w) (hg : w.grownBy w' (some g)) (hB : B ≤ g) (hB2 : B ≤ w.heap.size) : Below B a w' := h.grown hg hB2 (fun k hk => by injection hk with hk; omega)
theorem wpList_lookup_g {P : Program} (w : World) {ops : Array Oper} {rest : List Oper} {o : Oper} {a : Act} {Q : Exit → Act → World → Prop}
    (hw : Region.wanted o (yielded ops a.tmps) = true) (m x : Operand) (t : TypeId) (hop : o.op = Op.lookup t m x false)
    (k e : TypeId) (q : IntKind) (K : Keyed P k) (ht : P.underlying t = some (.map k e)) (he : P.underlying e = some (.int q)) (hz : (zeroValue e).run P w = .ok (.int q 0) w) (b n : Nat) (D : DU)
    (hm : a.eval m = .map (some b)) (hown : w.ownsMap P k (plainElem P e) b n D) (key : Value) (kl : Lit) (hx : a.eval x = key) (hkey : keyOf P k key = some kl)
    (hK : ∀ c : Int, D.atKey kl (.lit (.int q 0)) = .lit (.int q c) → (Lit.int q c).wf = true → wpList P ops Q rest (a.put o.dst (.int q c)) w) :
    wpList P ops Q (o :: rest) a w := by
  refine wpList_step fun K' hK' => ?_
  rw [if_pos hw]
  obtain ⟨c, hrun, hat, hwc⟩ := hown.lookup_int K ht he hz hkey
  unfold Oper.wp
  simp [execOp, hop, hm, hx, hrun, Result.andThen]
  exact hK' _ _ (hK c hat hwc)
def FreeW (N : Nat) : Prop := ∀ (t : T) (w : World) (R : Nat → Prop) (v : Value) (B bm fm n m : Nat) (Db Df : DU) (β : List UInt8 → Int) (φ : List UInt8 → Bool), t.bulk ≤ N → N ≤ 1048576 → T.In w R t v → (∀ g, R g → g < B) → B ≤ bm → B ≤ fm → bm ≠ fm → B ≤ w.heap.size →
    BM w bm n Db → FM w fm m Df → Cnt Db β → Fnd Df φ → (∀ x, 0 ≤ β x ∧ β x + t.bulk ≤ 4194304) → n + 2 * t.bulk ≤ 1099511627776 → m + t.bulk ≤ 1099511627776 →
    Calls Tryz.prog 60 #[v, .map (some bm), .map (some fm)] w fun e w' => e = .returned (.tuple #[]) ∧ ∃ (D E : DU), BM w' bm (n + 2 * t.bulk) D ∧ FM w' fm (m + t.bulk) E ∧ Cnt D β ∧ Fnd E (fun x => φ x || t.fv β x) ∧ Below B w w' ∧ MK bm fm w w'
end Go.Proofs.YthiadenmljbdaaaGreatDoor
end
section
namespace Go.Proofs.YthiadenmljbdaaaGreatDoor
open Go.RowKit
def knS : ByteArray := ⟨#[110, 111, 116, 40, 120, 60, 49, 41, 111, 114, 32, 115, 111, 109, 101, 32, 121, 46, 50, 32, 100, 105, 118, 105, 100, 101, 115, 32, 120, 45, 40, 121, 43, 49, 41]⟩
def knP : ByteArray := ⟨#[110, 111, 116, 32, 120, 32, 60, 32, 49, 32, 111, 114, 32, 115, 111, 109, 101, 32, 121, 32, 46, 32, 50, 32, 100, 105, 118, 105, 100, 101, 115, 32, 120, 32, 45, 32, 40, 121, 32, 43, 32, 49, 41]⟩
def knX : T := .node 2 ⟨#[120]⟩ [] false [] []
def knY : T := .node 2 ⟨#[121]⟩ [] false [] []
def kn1 : T := .node 1 ⟨#[]⟩ [] false [1] []
def knT : T := P.nd 18 [P.nd 16 [P.nd 9 [knX, kn1]], .node 21 ⟨#[]⟩ [⟨#[121]⟩] false [] [.node 15 ⟨#[]⟩ [] false [2] [P.nd 5 [knX, P.nd 4 [knY, kn1]]]]]
theorem kn_res : P.res knS = (0, 0, knT) := by kernel_rfl
theorem kn_size : knT.size = 12 := by kernel_rfl
theorem kn_chk : knT.chk = 0 := by kernel_rfl
theorem kn_said : P.said knT = knP.data.toList := by kernel_rfl
end Go.Proofs.YthiadenmljbdaaaGreatDoor
end
section
namespace Go.Proofs.YthiadenmljbdaaaGreatDoor
open Go.RowKit
open Go.Shelf Go.Maps Go.Sort Go.WideMaps
set_option maxRecDepth 100000 in
set_option maxHeartbeats 4000000 in
theorem free_other (N : Nat) (hN2 : N + 1 ≤ 1048576) (ih : FreeW N) (t : T) (h2 : t.k ≠ 2) (h21 : t.k ≠ 21) (h22 : t.k ≠ 22) (w : World) (R : Nat → Prop) (v : Value) (B bm fm n m : Nat) (Db Df : DU) (β : List UInt8 → Int) (φ : List UInt8 → Bool) (hN : t.bulk ≤ N + 1) (h : T.In w R t v) (hR : ∀ g, R g → g < B) (hBbm : B ≤ bm) (hBfm : B ≤ fm) (hne : bm ≠ fm) (hBw : B ≤ w.heap.size)
    (hbm : BM w bm n Db) (hfm : FM w fm m Df) (hct : Cnt Db β) (hfd : Fnd Df φ) (hbd : ∀ x, 0 ≤ β x ∧ β x + t.bulk ≤ 4194304) (hn : n + 2 * t.bulk ≤ 1099511627776) (hm : m + t.bulk ≤ 1099511627776) :
    Calls Tryz.prog 60 #[v, .map (some bm), .map (some fm)] w fun e w' => e = .returned (.tuple #[]) ∧ ∃ (D E : DU), BM w' bm (n + 2 * t.bulk) D ∧ FM w' fm (m + t.bulk) E ∧ Cnt D β ∧ Fnd E (fun x => φ x || t.fv β x) ∧ Below B w w' ∧ MK bm fm w w' := by
  obtain ⟨A1, c1, A2, c2, A3, c3, rfl, hst, -, -, hkd⟩ := in_formR h
  obtain ⟨hl1, hl2, _, _, hl5⟩ := T.len_le hN
  have hbulk : sbulk t.ns + t.mg.length + t.nm.size + T.bulks t.ks + 1 = t.bulk := by
    cases t
    simp only [T.bulk, T.ns, T.mg, T.nm, T.ks]
    omega
  have hsbl := sbulk_len t.ns
  have hfv := fun x => T.fv_eq t β x
  obtain ⟨nm, hnm⟩ : ∃ x, t.nm = x := ⟨_, rfl⟩
  obtain ⟨ng, hng⟩ : ∃ x, t.ng = x := ⟨_, rfl⟩
  obtain ⟨n1, hn1⟩ : ∃ x, t.ns.length = x := ⟨_, rfl⟩
  obtain ⟨n2, hn2⟩ : ∃ x, t.mg.length = x := ⟨_, rfl⟩
  obtain ⟨n3, hn3⟩ : ∃ x, t.ks.length = x := ⟨_, rfl⟩
  obtain ⟨kk, hkk⟩ : ∃ x, t.k = x := ⟨_, rfl⟩
  rw [hkk] at h2 h21 h22 hfv
  rw [hnm] at hl1 hfv
  rw [hn3] at hkd hl5
  rw [hn1] at hsbl hl2
  rw [hkk, hnm, hng, hn1, hn2, hn3]
  obtain ⟨W, hW, ps, hbW⟩ := made_blk w #[.int .i64 kk, .string nm, .slice A1 n1 c1, .bool ng, .slice A2 n2 c2, .slice A3 n3 c3] 28
  obtain ⟨g, hg⟩ : ∃ g, g = w.heap.size := ⟨_, rfl⟩
  have hgb : g ≠ bm := by have := hbm.lt; omega
  have hgf : g ≠ fm := by have := hfm.lt; omega
  have HBM : Hid (BM W bm n Db) := Lib.hid (hW ▸ hbm.alloc _)
  have HFM : Hid (FM W fm m Df) := Lib.hid (hW ▸ hfm.alloc _)
  have HBW0 := Lib.hid (hbW.mono hBw)
  have HK0 : Hid (MK bm fm w W) := Lib.hid (MK.below hbW)
  have hBW := Nat.le_trans hBw hbW.size
  have HST := Lib.hid (hst.keep (fun p v hp hc => (HBW0.out.cell (hR _ hp)).trans hc) (fun _ h => h))
  rw [← hg] at ps
  have HR := Lib.hid hR
  have HKD := Lib.hid hkd
  have HN1 := Lib.hid hn1
  have HN3 := Lib.hid hn3
  have HNM := Lib.hid hnm
  have HFV := Lib.hid hfv
  have HC := Lib.hid hct
  have HF := Lib.hid hfd
  have HBD := Lib.hid hbd
  have hnmx : nm.size ≤ maxLen := by unfold maxLen; omega
  clear h hR hkd hn1 hn2 hn3 hnm hng hst hbW hBw hbm hfm hct hfd hbd hfv
  have d2 : (kk == 2) = false := by simpa using h2
  have d21 : (kk == 21) = false := by simpa using h21
  have d22 : (kk == 22) = false := by simpa using h22
  have HFQ : Hid (∀ x, t.fv β x = T.fvs t.ks β x) := Lib.hid (fun x => by rw [HFV.out x, d2]; unfold bnd; rw [if_neg (by omega)]; simp)
  clear h2 h21 h22
  have HBV := Lib.hid (Below.refl B W)
  have HKV : Hid (MK bm fm W W) := Lib.hid (MK.refl W)
  have HGM : Hid (∀ x, 0 ≤ β x ∧ β x + T.bulks t.ks ≤ 4194304) := Lib.hid (fun x => ⟨(HBD.out x).1, by have := (HBD.out x).2; omega⟩)
  have hnv : n + 2 * T.bulks t.ks ≤ 1099511627776 := by omega
  have hmv : m + T.bulks t.ks ≤ 1099511627776 := by omega
  have hbi := ih
  have HBK : Hid (∀ i, i < t.ks.length → (t.ks.getD i t0).bulk ≤ N ∧ ∀ x, 0 ≤ β x ∧ β x + (t.ks.getD i t0).bulk ≤ 4194304) := Lib.hid (fun i hi => ⟨T.kid_bulk hN hi, fun x => ⟨(HGM.out x).1, by have h1 := (HGM.out x).2; have h2 := T.bulk_kid t.ks i hi; omega⟩⟩)
  go_enter Tryz.func60, Tryz.ntmps60
  go_upto_region 1 with (fail)
  rw [← hW, ← hg]
  clear hW hg
  obtain ⟨x0, x1, x2, x3, x4, x5⟩ := ps.six
  go_wp2_with fail
  go_loopg [51] (n3 + 1) (fun gk v51 wr => ∃ (i : Nat) (D E : DU), gk + i = n3 + 1 ∧ i ≤ n3 ∧ v51 = .int .i64 (i : Nat) ∧ Hid (BM wr bm (n + 2 * T.bulks (t.ks.take i)) D) ∧ Hid (FM wr fm (m + T.bulks (t.ks.take i)) E) ∧ Hid (Cnt D β) ∧ Hid (Fnd E (fun x => φ x || T.fvs (t.ks.take i) β x)) ∧ Below B W wr ∧ Hid (MK bm fm W wr))
  case atStart => exact ⟨0, Db, Df, by omega, Nat.zero_le _, rfl, Lib.hid (by simpa [T.bulks] using HBM.out), Lib.hid (by simpa [T.bulks] using HFM.out), HC, Lib.hid (fun x => by rw [HF.out x]; simp [T.fvs]), HBV.out, HKV⟩
  case round =>
    obtain ⟨i, D, E, hi, hin, rfl, HBM', HFM', HC', HF', hbv, HKV'⟩ := hrel
    clear HBM HFM HC HF HKV HBV
    have HBV := Lib.hid hbv
    have hBr := Nat.le_trans hBW hbv.size
    clear hbv
    by_cases hlt : i < n3
    · have hl0 : 0 < n3 := by omega
      obtain ⟨kb, ko, rfl, hRk, hI⟩ := HKD.out hl0
      have hkB := HR.out kb hRk
      obtain ⟨v0, v1, v2, v3, v4, v5, h6, hkI⟩ := T.Ins.get _ _ _ hI (by rw [HN3.out]; exact hlt)
      have hfk := HBK.out i (by rw [HN3.out]; exact hlt)
      have hbin := T.bulks_in t.ks i (by rw [HN3.out]; exact hlt)
      have hbs := T.bulks_snoc (t.ks.take i) (t.ks.getD i t0)
      have hfs := fun x => T.fvs_snoc β x (t.ks.take i) (t.ks.getD i t0)
      rw [← take_snoc _ t0 _ (by rw [HN3.out]; exact hlt)] at hbs hfs
      obtain ⟨k, hk⟩ : ∃ k, t.ks.getD i t0 = k := ⟨_, rfl⟩
      rw [hk] at hkI hfk hbin hbs hfs
      obtain ⟨B1, d1, q1, B2, d2, q2, B3, d3, q3, kkk, nmk, ngk, rfl, rfl, rfl, rfl, rfl, rfl⟩ := kid_form hkI
      have h61 := h6.keep (fun p v hp hc => (HBW0.out.cell (by rw [hp]; exact hkB)).trans hc)
      obtain ⟨e0, e1, e2, e3, e4, e5⟩ := h61.keep (fun p v hp hc => (HBV.out.cell (by rw [hp]; exact hkB)).trans hc)
      obtain ⟨V, hV, pv, hbV⟩ := made_blk wr #[.int .i64 kkk, .string nmk, .slice B1 q1 d1, .bool ngk, .slice B2 q2 d2, .slice B3 q3 d3] 28
      obtain ⟨gv, hgv⟩ : ∃ g, g = wr.heap.size := ⟨_, rfl⟩
      have HB2 : Hid (BM V bm (n + 2 * T.bulks (t.ks.take i)) D) := Lib.hid (hV ▸ HBM'.out.alloc _)
      have HF2 : Hid (FM V fm (m + T.bulks (t.ks.take i)) E) := Lib.hid (hV ▸ HFM'.out.alloc _)
      have HBVV := Lib.hid (HBV.out.trans (hbV.mono hBr))
      have HKVV := Lib.hid (HKV'.out.trans (MK.below hbV))
      have HKI := Lib.hid ((hkI.under HR.out HBW0.out).under HR.out HBVV.out)
      have hBV := Nat.le_trans hBr hbV.size
      rw [← hgv] at pv
      have HFK := Lib.hid hfk
      have HBS := Lib.hid hbs
      have HFS := Lib.hid hfs
      have HCE := Lib.hid (ih k V R _ B bm fm _ _ D E β (fun x => φ x || T.fvs (t.ks.take i) β x) hfk.1 (by omega) HKI.out HR.out hBbm hBfm hne hBV HB2.out HF2.out HC'.out HF'.out (fun x => ⟨(hfk.2 x).1, (hfk.2 x).2⟩) (by omega) (by omega))
      have hi0 : (0 : Int) ≤ i := by omega
      have hi1 : (i : Int) < n3 := by omega
      clear hbV h6 h61 hkI hfk hk hI hbs hfs hbin HBM' HFM' HC' HF' hRk HKV' hBr hBV
      go_upto_region 13 with (fail)
      rw [← hV, ← hgv]
      clear e0 e1 e2 e3 e4 e5 hV hgv
      obtain ⟨x0, x1, x2, x3, x4, x5⟩ := pv.six
      go_wp2_with (go_at_call 60; refine HCE.out.mono ?_; rintro e w5 ⟨rfl, D5, E5, hB5, hF5, hC5, hFd5, hbl5, hk5⟩)
      go_roundg (n3 - i)
      case measure => omega
      case rel => exact ⟨i + 1, D5, E5, by omega, by omega, by go_num, Lib.hid (by rw [HBS.out, Nat.mul_add, ← Nat.add_assoc]; exact hB5), Lib.hid (by rw [HBS.out, ← Nat.add_assoc]; exact hF5), Lib.hid hC5, Lib.hid (fun x => by rw [hFd5 x]; dsimp only; rw [HFS.out x, Bool.or_assoc]), HBVV.out.trans hbl5, Lib.hid (HKVV.out.trans hk5)⟩
    · have hfx : t.ks.take i = t.ks := by rw [List.take_of_length_le (by rw [HN3.out]; omega)]
      rw [hfx] at HBM' HFM' HF'
      clear hfx
      obtain rfl : i = n3 := by omega
      go_wp2_with fail
      go_end0
      exact ⟨rfl, D, E, HBM'.out.mono (by omega), HFM'.out.mono (by omega), HC'.out, fun x => by rw [HF'.out x]; dsimp only; rw [HFQ.out x], HBW0.out.trans HBV.out, HK0.out.trans HKV'.out⟩
end Go.Proofs.YthiadenmljbdaaaGreatDoor
end
section
namespace Go.Proofs.YthiadenmljbdaaaGreatDoor
open Go.RowKit
open Go.Shelf Go.Maps Go.Sort Go.WideMaps
set_option maxRecDepth 100000 in
set_option maxHeartbeats 4000000 in
theorem free_var0 (N : Nat) (hN2 : N + 1 ≤ 1048576) (ih : FreeW N) (t : T) (h2 : t.k = 2) (w : World) (R : Nat → Prop) (v : Value) (B bm fm n m : Nat) (Db Df : DU) (β : List UInt8 → Int) (φ : List UInt8 → Bool) (hN : t.bulk ≤ N + 1) (h : T.In w R t v) (hR : ∀ g, R g → g < B) (hBbm : B ≤ bm) (hBfm : B ≤ fm) (hne : bm ≠ fm) (hBw : B ≤ w.heap.size)
    (hbm : BM w bm n Db) (hfm : FM w fm m Df) (hct : Cnt Db β) (hfd : Fnd Df φ) (hbd : ∀ x, 0 ≤ β x ∧ β x + t.bulk ≤ 4194304) (hn : n + 2 * t.bulk ≤ 1099511627776) (hm : m + t.bulk ≤ 1099511627776) (hnq : (β t.nm.data.toList == 0) = false) :
    Calls Tryz.prog 60 #[v, .map (some bm), .map (some fm)] w fun e w' => e = .returned (.tuple #[]) ∧ ∃ (D E : DU), BM w' bm (n + 2 * t.bulk) D ∧ FM w' fm (m + t.bulk) E ∧ Cnt D β ∧ Fnd E (fun x => φ x || t.fv β x) ∧ Below B w w' ∧ MK bm fm w w' := by
  obtain ⟨A1, c1, A2, c2, A3, c3, rfl, hst, -, -, hkd⟩ := in_formR h
  obtain ⟨hl1, hl2, _, _, hl5⟩ := T.len_le hN
  have hbulk : sbulk t.ns + t.mg.length + t.nm.size + T.bulks t.ks + 1 = t.bulk := by
    cases t
    simp only [T.bulk, T.ns, T.mg, T.nm, T.ks]
    omega
  have hsbl := sbulk_len t.ns
  have hfv := fun x => T.fv_eq t β x
  obtain ⟨nm, hnm⟩ : ∃ x, t.nm = x := ⟨_, rfl⟩
  obtain ⟨ng, hng⟩ : ∃ x, t.ng = x := ⟨_, rfl⟩
  obtain ⟨n1, hn1⟩ : ∃ x, t.ns.length = x := ⟨_, rfl⟩
  obtain ⟨n2, hn2⟩ : ∃ x, t.mg.length = x := ⟨_, rfl⟩
  obtain ⟨n3, hn3⟩ : ∃ x, t.ks.length = x := ⟨_, rfl⟩
  obtain ⟨kk, hkk⟩ : ∃ x, t.k = x := ⟨_, rfl⟩
  rw [hkk] at h2 hfv
  rw [hnm] at hl1 hfv
  rw [hn3] at hkd hl5
  rw [hn1] at hsbl hl2
  rw [hkk, hnm, hng, hn1, hn2, hn3]
  obtain ⟨W, hW, ps, hbW⟩ := made_blk w #[.int .i64 kk, .string nm, .slice A1 n1 c1, .bool ng, .slice A2 n2 c2, .slice A3 n3 c3] 28
  obtain ⟨g, hg⟩ : ∃ g, g = w.heap.size := ⟨_, rfl⟩
  have hgb : g ≠ bm := by have := hbm.lt; omega
  have hgf : g ≠ fm := by have := hfm.lt; omega
  have HBM : Hid (BM W bm n Db) := Lib.hid (hW ▸ hbm.alloc _)
  have HFM : Hid (FM W fm m Df) := Lib.hid (hW ▸ hfm.alloc _)
  have HBW0 := Lib.hid (hbW.mono hBw)
  have HK0 : Hid (MK bm fm w W) := Lib.hid (MK.below hbW)
  have hBW := Nat.le_trans hBw hbW.size
  have HST := Lib.hid (hst.keep (fun p v hp hc => (HBW0.out.cell (hR _ hp)).trans hc) (fun _ h => h))
  rw [← hg] at ps
  have HR := Lib.hid hR
  have HKD := Lib.hid hkd
  have HN1 := Lib.hid hn1
  have HN3 := Lib.hid hn3
  have HNM := Lib.hid hnm
  have HFV := Lib.hid hfv
  have HC := Lib.hid hct
  have HF := Lib.hid hfd
  have HBD := Lib.hid hbd
  have hnmx : nm.size ≤ maxLen := by unfold maxLen; omega
  clear h hR hkd hn1 hn2 hn3 hnm hng hst hbW hBw hbm hfm hct hfd hbd hfv
  subst h2
  have hnq' : (β nm.data.toList == 0) = false := by rw [← hnq, HNM.out]
  have HNQ := Lib.hid hnq'
  clear hnq hnq'
  have HBV := Lib.hid (Below.refl B W)
  have HKV : Hid (MK bm fm W W) := Lib.hid (MK.refl W)
  have HFQ : Hid (∀ x, t.fv β x = T.fvs t.ks β x) := Lib.hid (fun x => by rw [HFV.out x, HNQ.out]; unfold bnd; rw [if_neg (by decide)]; simp)
  have HGM : Hid (∀ x, 0 ≤ β x ∧ β x + T.bulks t.ks ≤ 4194304) := Lib.hid (fun x => ⟨(HBD.out x).1, by have := (HBD.out x).2; omega⟩)
  have hnv : n + 2 * T.bulks t.ks ≤ 1099511627776 := by omega
  have hmv : m + T.bulks t.ks ≤ 1099511627776 := by omega
  have hbi := ih
  have HBK : Hid (∀ i, i < t.ks.length → (t.ks.getD i t0).bulk ≤ N ∧ ∀ x, 0 ≤ β x ∧ β x + (t.ks.getD i t0).bulk ≤ 4194304) := Lib.hid (fun i hi => ⟨T.kid_bulk hN hi, fun x => ⟨(HGM.out x).1, by have h1 := (HGM.out x).2; have h2 := T.bulk_kid t.ks i hi; omega⟩⟩)
  go_enter Tryz.func60, Tryz.ntmps60
  go_upto_region 1 with (fail)
  rw [← hW, ← hg]
  clear hW hg
  obtain ⟨x0, x1, x2, x3, x4, x5⟩ := ps.six
  go_upto_region 10 with (at_lookup; refine wpList_lookup_g _ (by rfl) _ _ 91 rfl 9 3 .i64 lawS Tryz.underlying91 Tryz.underlying3 (zeroI _) bm _ _ rfl HBM.out _ _ rfl (keyOf_string_mk Tryz.underlying9 hnmx) ?_; intro c hat _; have hc0 : (c == 0) = false := by rw [HC.out.at hat]; exact HNQ.out)
  clear hat hc0
  go_wp2_with fail
  go_loopg [51] (n3 + 1) (fun gk v51 wr => ∃ (i : Nat) (D E : DU), gk + i = n3 + 1 ∧ i ≤ n3 ∧ v51 = .int .i64 (i : Nat) ∧ Hid (BM wr bm (n + 2 * T.bulks (t.ks.take i)) D) ∧ Hid (FM wr fm (m + T.bulks (t.ks.take i)) E) ∧ Hid (Cnt D β) ∧ Hid (Fnd E (fun x => φ x || T.fvs (t.ks.take i) β x)) ∧ Below B W wr ∧ Hid (MK bm fm W wr))
  case atStart => exact ⟨0, Db, Df, by omega, Nat.zero_le _, rfl, Lib.hid (by simpa [T.bulks] using HBM.out), Lib.hid (by simpa [T.bulks] using HFM.out), HC, Lib.hid (fun x => by rw [HF.out x]; simp [T.fvs]), HBV.out, HKV⟩
  case round =>
    obtain ⟨i, D, E, hi, hin, rfl, HBM', HFM', HC', HF', hbv, HKV'⟩ := hrel
    clear HBM HFM HC HF HKV HBV
    have HBV := Lib.hid hbv
    have hBr := Nat.le_trans hBW hbv.size
    clear hbv
    by_cases hlt : i < n3
    · have hl0 : 0 < n3 := by omega
      obtain ⟨kb, ko, rfl, hRk, hI⟩ := HKD.out hl0
      have hkB := HR.out kb hRk
      obtain ⟨v0, v1, v2, v3, v4, v5, h6, hkI⟩ := T.Ins.get _ _ _ hI (by rw [HN3.out]; exact hlt)
      have hfk := HBK.out i (by rw [HN3.out]; exact hlt)
      have hbin := T.bulks_in t.ks i (by rw [HN3.out]; exact hlt)
      have hbs := T.bulks_snoc (t.ks.take i) (t.ks.getD i t0)
      have hfs := fun x => T.fvs_snoc β x (t.ks.take i) (t.ks.getD i t0)
      rw [← take_snoc _ t0 _ (by rw [HN3.out]; exact hlt)] at hbs hfs
      obtain ⟨k, hk⟩ : ∃ k, t.ks.getD i t0 = k := ⟨_, rfl⟩
      rw [hk] at hkI hfk hbin hbs hfs
      obtain ⟨B1, d1, q1, B2, d2, q2, B3, d3, q3, kkk, nmk, ngk, rfl, rfl, rfl, rfl, rfl, rfl⟩ := kid_form hkI
      have h61 := h6.keep (fun p v hp hc => (HBW0.out.cell (by rw [hp]; exact hkB)).trans hc)
      obtain ⟨e0, e1, e2, e3, e4, e5⟩ := h61.keep (fun p v hp hc => (HBV.out.cell (by rw [hp]; exact hkB)).trans hc)
      obtain ⟨V, hV, pv, hbV⟩ := made_blk wr #[.int .i64 kkk, .string nmk, .slice B1 q1 d1, .bool ngk, .slice B2 q2 d2, .slice B3 q3 d3] 28
      obtain ⟨gv, hgv⟩ : ∃ g, g = wr.heap.size := ⟨_, rfl⟩
      have HB2 : Hid (BM V bm (n + 2 * T.bulks (t.ks.take i)) D) := Lib.hid (hV ▸ HBM'.out.alloc _)
      have HF2 : Hid (FM V fm (m + T.bulks (t.ks.take i)) E) := Lib.hid (hV ▸ HFM'.out.alloc _)
      have HBVV := Lib.hid (HBV.out.trans (hbV.mono hBr))
      have HKVV := Lib.hid (HKV'.out.trans (MK.below hbV))
      have HKI := Lib.hid ((hkI.under HR.out HBW0.out).under HR.out HBVV.out)
      have hBV := Nat.le_trans hBr hbV.size
      rw [← hgv] at pv
      have HFK := Lib.hid hfk
      have HBS := Lib.hid hbs
      have HFS := Lib.hid hfs
      have HCE := Lib.hid (ih k V R _ B bm fm _ _ D E β (fun x => φ x || T.fvs (t.ks.take i) β x) hfk.1 (by omega) HKI.out HR.out hBbm hBfm hne hBV HB2.out HF2.out HC'.out HF'.out (fun x => ⟨(hfk.2 x).1, (hfk.2 x).2⟩) (by omega) (by omega))
      have hi0 : (0 : Int) ≤ i := by omega
      have hi1 : (i : Int) < n3 := by omega
      clear hbV h6 h61 hkI hfk hk hI hbs hfs hbin HBM' HFM' HC' HF' hRk HKV' hBr hBV
      go_upto_region 13 with (fail)
      rw [← hV, ← hgv]
      clear e0 e1 e2 e3 e4 e5 hV hgv
      obtain ⟨x0, x1, x2, x3, x4, x5⟩ := pv.six
      go_wp2_with (go_at_call 60; refine HCE.out.mono ?_; rintro e w5 ⟨rfl, D5, E5, hB5, hF5, hC5, hFd5, hbl5, hk5⟩)
      go_roundg (n3 - i)
      case measure => omega
      case rel => exact ⟨i + 1, D5, E5, by omega, by omega, by go_num, Lib.hid (by rw [HBS.out, Nat.mul_add, ← Nat.add_assoc]; exact hB5), Lib.hid (by rw [HBS.out, ← Nat.add_assoc]; exact hF5), Lib.hid hC5, Lib.hid (fun x => by rw [hFd5 x]; dsimp only; rw [HFS.out x, Bool.or_assoc]), HBVV.out.trans hbl5, Lib.hid (HKVV.out.trans hk5)⟩
    · have hfx : t.ks.take i = t.ks := by rw [List.take_of_length_le (by rw [HN3.out]; omega)]
      rw [hfx] at HBM' HFM' HF'
      clear hfx
      obtain rfl : i = n3 := by omega
      go_wp2_with fail
      go_end0
      exact ⟨rfl, D, E, HBM'.out.mono (by omega), HFM'.out.mono (by omega), HC'.out, fun x => by rw [HF'.out x]; dsimp only; rw [HFQ.out x], HBW0.out.trans HBV.out, HK0.out.trans HKV'.out⟩
set_option maxRecDepth 100000 in
set_option maxHeartbeats 4000000 in
theorem free_var1 (N : Nat) (hN2 : N + 1 ≤ 1048576) (ih : FreeW N) (t : T) (h2 : t.k = 2) (w : World) (R : Nat → Prop) (v : Value) (B bm fm n m : Nat) (Db Df : DU) (β : List UInt8 → Int) (φ : List UInt8 → Bool) (hN : t.bulk ≤ N + 1) (h : T.In w R t v) (hR : ∀ g, R g → g < B) (hBbm : B ≤ bm) (hBfm : B ≤ fm) (hne : bm ≠ fm) (hBw : B ≤ w.heap.size)
    (hbm : BM w bm n Db) (hfm : FM w fm m Df) (hct : Cnt Db β) (hfd : Fnd Df φ) (hbd : ∀ x, 0 ≤ β x ∧ β x + t.bulk ≤ 4194304) (hn : n + 2 * t.bulk ≤ 1099511627776) (hm : m + t.bulk ≤ 1099511627776) (hnq : (β t.nm.data.toList == 0) = true) :
    Calls Tryz.prog 60 #[v, .map (some bm), .map (some fm)] w fun e w' => e = .returned (.tuple #[]) ∧ ∃ (D E : DU), BM w' bm (n + 2 * t.bulk) D ∧ FM w' fm (m + t.bulk) E ∧ Cnt D β ∧ Fnd E (fun x => φ x || t.fv β x) ∧ Below B w w' ∧ MK bm fm w w' := by
  obtain ⟨A1, c1, A2, c2, A3, c3, rfl, hst, -, -, hkd⟩ := in_formR h
  obtain ⟨hl1, hl2, _, _, hl5⟩ := T.len_le hN
  have hbulk : sbulk t.ns + t.mg.length + t.nm.size + T.bulks t.ks + 1 = t.bulk := by
    cases t
    simp only [T.bulk, T.ns, T.mg, T.nm, T.ks]
    omega
  have hsbl := sbulk_len t.ns
  have hfv := fun x => T.fv_eq t β x
  obtain ⟨nm, hnm⟩ : ∃ x, t.nm = x := ⟨_, rfl⟩
  obtain ⟨ng, hng⟩ : ∃ x, t.ng = x := ⟨_, rfl⟩
  obtain ⟨n1, hn1⟩ : ∃ x, t.ns.length = x := ⟨_, rfl⟩
  obtain ⟨n2, hn2⟩ : ∃ x, t.mg.length = x := ⟨_, rfl⟩
  obtain ⟨n3, hn3⟩ : ∃ x, t.ks.length = x := ⟨_, rfl⟩
  obtain ⟨kk, hkk⟩ : ∃ x, t.k = x := ⟨_, rfl⟩
  rw [hkk] at h2 hfv
  rw [hnm] at hl1 hfv
  rw [hn3] at hkd hl5
  rw [hn1] at hsbl hl2
  rw [hkk, hnm, hng, hn1, hn2, hn3]
  obtain ⟨W, hW, ps, hbW⟩ := made_blk w #[.int .i64 kk, .string nm, .slice A1 n1 c1, .bool ng, .slice A2 n2 c2, .slice A3 n3 c3] 28
  obtain ⟨g, hg⟩ : ∃ g, g = w.heap.size := ⟨_, rfl⟩
  have hgb : g ≠ bm := by have := hbm.lt; omega
  have hgf : g ≠ fm := by have := hfm.lt; omega
  have HBM : Hid (BM W bm n Db) := Lib.hid (hW ▸ hbm.alloc _)
  have HFM : Hid (FM W fm m Df) := Lib.hid (hW ▸ hfm.alloc _)
  have HBW0 := Lib.hid (hbW.mono hBw)
  have HK0 : Hid (MK bm fm w W) := Lib.hid (MK.below hbW)
  have hBW := Nat.le_trans hBw hbW.size
  have HST := Lib.hid (hst.keep (fun p v hp hc => (HBW0.out.cell (hR _ hp)).trans hc) (fun _ h => h))
  rw [← hg] at ps
  have HR := Lib.hid hR
  have HKD := Lib.hid hkd
  have HN1 := Lib.hid hn1
  have HN3 := Lib.hid hn3
  have HNM := Lib.hid hnm
  have HFV := Lib.hid hfv
  have HC := Lib.hid hct
  have HF := Lib.hid hfd
  have HBD := Lib.hid hbd
  have hnmx : nm.size ≤ maxLen := by unfold maxLen; omega
  clear h hR hkd hn1 hn2 hn3 hnm hng hst hbW hBw hbm hfm hct hfd hbd hfv
  subst h2
  have hnq' : (β nm.data.toList == 0) = true := by rw [← hnq, HNM.out]
  have HNQ := Lib.hid hnq'
  clear hnq hnq'
  have HBV := Lib.hid (Below.refl B W)
  have HKV : Hid (MK bm fm W W) := Lib.hid (MK.refl W)
  obtain ⟨ψ, hψ⟩ : ∃ ψ : List UInt8 → Bool, ψ = fun x => φ x || decide (x = nm.data.toList) := ⟨_, rfl⟩
  have HPS := Lib.hid hψ
  clear hψ
  have HFQ : Hid (∀ x, (φ x || t.fv β x) = (ψ x || T.fvs t.ks β x)) := Lib.hid (fun x => by rw [HFV.out x, HNQ.out, HPS.out]; unfold bnd; rw [if_neg (by decide)]; simp [Bool.or_assoc])
  have HGM : Hid (∀ x, 0 ≤ β x ∧ β x + T.bulks t.ks ≤ 4194304) := Lib.hid (fun x => ⟨(HBD.out x).1, by have := (HBD.out x).2; omega⟩)
  have hnv : n + 2 * T.bulks t.ks ≤ 1099511627776 := by omega
  have hmv : (m + 1) + T.bulks t.ks ≤ 1099511627776 := by omega
  have hbi := ih
  have HBK : Hid (∀ i, i < t.ks.length → (t.ks.getD i t0).bulk ≤ N ∧ ∀ x, 0 ≤ β x ∧ β x + (t.ks.getD i t0).bulk ≤ 4194304) := Lib.hid (fun i hi => ⟨T.kid_bulk hN hi, fun x => ⟨(HGM.out x).1, by have h1 := (HGM.out x).2; have h2 := T.bulk_kid t.ks i hi; omega⟩⟩)
  go_enter Tryz.func60, Tryz.ntmps60
  go_upto_region 1 with (fail)
  rw [← hW, ← hg]
  clear hW hg
  obtain ⟨x0, x1, x2, x3, x4, x5⟩ := ps.six
  go_upto_region 3 with (first | (at_lookup; refine wpList_lookup_g _ (by rfl) _ _ 91 rfl 9 3 .i64 lawS Tryz.underlying91 Tryz.underlying3 (zeroI _) bm _ _ rfl HBM.out _ _ rfl (keyOf_string_mk Tryz.underlying9 hnmx) ?_; intro c hat _; have hc0 : (c == 0) = true := by rw [HC.out.at hat]; exact HNQ.out) | (at_mapUpdate; refine wpList_mapUpdate_own _ rfl _ _ _ 90 rfl 9 130 lawS Tryz.underlying90 _ fm m _ rfl HFM.out (by unfold maxLen; omega) _ _ _ rfl rfl (keyOf_string_mk Tryz.underlying9 hnmx) _ [] unitElem_mk ?_; intro w1 hown1 hgr1))
  have HFM1 : Hid (FM w1 fm (m + 1) (Df.put (.string nm.data.toList) (.agg []))) := Lib.hid hown1
  have HBM1 : Hid (BM w1 bm n Db) := Lib.hid (HBM.out.kept hgr1 (by simpa using hne))
  have HF1 : Hid (Fnd (Df.put (.string nm.data.toList) (.agg [])) ψ) := Lib.hid (by rw [HPS.out]; exact HF.out.put HFM.out.isMap hnmx _)
  have HBV1 := Lib.hid (below_map HBV.out hgr1 hBfm hBW)
  have hk1 : MK bm fm W w1 := MK.grown hgr1 (.inr rfl)
  have HKV1 := Lib.hid hk1
  have ps1 := hk1.blk ps hgb hgf
  have hsz1 := hgr1.size
  clear hat hc0 hown1 hgr1 hk1 ps HFM HBM HF HBV HKV x0 x1 x2 x3 x4 x5
  obtain ⟨x0, x1, x2, x3, x4, x5⟩ := ps1.six
  have HFM := HFM1
  have HBM := HBM1
  have HF := HF1
  have HBV := HBV1
  have HKV := HKV1
  clear HFM1 HBM1 HF1 HBV1 HKV1
  go_wp2_with fail
  go_loopg [51] (n3 + 1) (fun gk v51 wr => ∃ (i : Nat) (D E : DU), gk + i = n3 + 1 ∧ i ≤ n3 ∧ v51 = .int .i64 (i : Nat) ∧ Hid (BM wr bm (n + 2 * T.bulks (t.ks.take i)) D) ∧ Hid (FM wr fm ((m + 1) + T.bulks (t.ks.take i)) E) ∧ Hid (Cnt D β) ∧ Hid (Fnd E (fun x => ψ x || T.fvs (t.ks.take i) β x)) ∧ Below B W wr ∧ Hid (MK bm fm W wr))
  case atStart => exact ⟨0, Db, (Df.put (.string nm.data.toList) (.agg [])), by omega, Nat.zero_le _, rfl, Lib.hid (by simpa [T.bulks] using HBM.out), Lib.hid (by simpa [T.bulks] using HFM.out), HC, Lib.hid (fun x => by rw [HF.out x]; simp [T.fvs]), HBV.out, HKV⟩
  case round =>
    obtain ⟨i, D, E, hi, hin, rfl, HBM', HFM', HC', HF', hbv, HKV'⟩ := hrel
    clear HBM HFM HC HF HKV HBV
    have HBV := Lib.hid hbv
    have hBr := Nat.le_trans hBW hbv.size
    clear hbv
    by_cases hlt : i < n3
    · have hl0 : 0 < n3 := by omega
      obtain ⟨kb, ko, rfl, hRk, hI⟩ := HKD.out hl0
      have hkB := HR.out kb hRk
      obtain ⟨v0, v1, v2, v3, v4, v5, h6, hkI⟩ := T.Ins.get _ _ _ hI (by rw [HN3.out]; exact hlt)
      have hfk := HBK.out i (by rw [HN3.out]; exact hlt)
      have hbin := T.bulks_in t.ks i (by rw [HN3.out]; exact hlt)
      have hbs := T.bulks_snoc (t.ks.take i) (t.ks.getD i t0)
      have hfs := fun x => T.fvs_snoc β x (t.ks.take i) (t.ks.getD i t0)
      rw [← take_snoc _ t0 _ (by rw [HN3.out]; exact hlt)] at hbs hfs
      obtain ⟨k, hk⟩ : ∃ k, t.ks.getD i t0 = k := ⟨_, rfl⟩
      rw [hk] at hkI hfk hbin hbs hfs
      obtain ⟨B1, d1, q1, B2, d2, q2, B3, d3, q3, kkk, nmk, ngk, rfl, rfl, rfl, rfl, rfl, rfl⟩ := kid_form hkI
      have h61 := h6.keep (fun p v hp hc => (HBW0.out.cell (by rw [hp]; exact hkB)).trans hc)
      obtain ⟨e0, e1, e2, e3, e4, e5⟩ := h61.keep (fun p v hp hc => (HBV.out.cell (by rw [hp]; exact hkB)).trans hc)
      obtain ⟨V, hV, pv, hbV⟩ := made_blk wr #[.int .i64 kkk, .string nmk, .slice B1 q1 d1, .bool ngk, .slice B2 q2 d2, .slice B3 q3 d3] 28
      obtain ⟨gv, hgv⟩ : ∃ g, g = wr.heap.size := ⟨_, rfl⟩
      have HB2 : Hid (BM V bm (n + 2 * T.bulks (t.ks.take i)) D) := Lib.hid (hV ▸ HBM'.out.alloc _)
      have HF2 : Hid (FM V fm ((m + 1) + T.bulks (t.ks.take i)) E) := Lib.hid (hV ▸ HFM'.out.alloc _)
      have HBVV := Lib.hid (HBV.out.trans (hbV.mono hBr))
      have HKVV := Lib.hid (HKV'.out.trans (MK.below hbV))
      have HKI := Lib.hid ((hkI.under HR.out HBW0.out).under HR.out HBVV.out)
      have hBV := Nat.le_trans hBr hbV.size
      rw [← hgv] at pv
      have HFK := Lib.hid hfk
      have HBS := Lib.hid hbs
      have HFS := Lib.hid hfs
      have HCE := Lib.hid (ih k V R _ B bm fm _ _ D E β (fun x => ψ x || T.fvs (t.ks.take i) β x) hfk.1 (by omega) HKI.out HR.out hBbm hBfm hne hBV HB2.out HF2.out HC'.out HF'.out (fun x => ⟨(hfk.2 x).1, (hfk.2 x).2⟩) (by omega) (by omega))
      have hi0 : (0 : Int) ≤ i := by omega
      have hi1 : (i : Int) < n3 := by omega
      clear hbV h6 h61 hkI hfk hk hI hbs hfs hbin HBM' HFM' HC' HF' hRk HKV' hBr hBV
      go_upto_region 13 with (fail)
      rw [← hV, ← hgv]
      clear e0 e1 e2 e3 e4 e5 hV hgv
      obtain ⟨x0, x1, x2, x3, x4, x5⟩ := pv.six
      go_wp2_with (go_at_call 60; refine HCE.out.mono ?_; rintro e w5 ⟨rfl, D5, E5, hB5, hF5, hC5, hFd5, hbl5, hk5⟩)
      go_roundg (n3 - i)
      case measure => omega
      case rel => exact ⟨i + 1, D5, E5, by omega, by omega, by go_num, Lib.hid (by rw [HBS.out, Nat.mul_add, ← Nat.add_assoc]; exact hB5), Lib.hid (by rw [HBS.out, ← Nat.add_assoc]; exact hF5), Lib.hid hC5, Lib.hid (fun x => by rw [hFd5 x]; dsimp only; rw [HFS.out x, Bool.or_assoc]), HBVV.out.trans hbl5, Lib.hid (HKVV.out.trans hk5)⟩
    · have hfx : t.ks.take i = t.ks := by rw [List.take_of_length_le (by rw [HN3.out]; omega)]
      rw [hfx] at HBM' HFM' HF'
      clear hfx
      obtain rfl : i = n3 := by omega
      go_wp2_with fail
      go_end0
      exact ⟨rfl, D, E, HBM'.out.mono (by omega), HFM'.out.mono (by omega), HC'.out, fun x => by rw [HF'.out x]; exact (HFQ.out x).symm, HBW0.out.trans HBV.out, HK0.out.trans HKV'.out⟩
end Go.Proofs.YthiadenmljbdaaaGreatDoor
end

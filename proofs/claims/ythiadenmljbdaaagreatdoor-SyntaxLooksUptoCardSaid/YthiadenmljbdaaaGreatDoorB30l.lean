/-
  l: the parts WFreeO WFreeV WFreeB WFreeC.
-/
import Derived.Test.YthiadenmljbdaaaGreatDoorB24l
import Derived.Test.YthiadenmljbdaaaGreatDoorB29l
namespace Go.Proofs.YthiadenmljbdaaaGreatDoor
section
open Go.RowKit
open Go.Shelf Go.Maps Go.Sort Go.WideMaps
set_option maxRecDepth 100000 in
set_option maxHeartbeats 4000000 in
theorem free_other (N : Nat) (hN2 : N + 1 ≤ 1048576) (ih : FreeW N) (t : T) (h2 : t.k ≠ 2) (h21 : t.k ≠ 21) (h22 : t.k ≠ 22) (w : World) (R : Nat → Prop) (v : Value) (B bm fm n m : Nat) (Db Df : DU) (β : List UInt8 → Int) (φ : List UInt8 → Bool) (hN : t.bulk ≤ N + 1) (h : T.In w R t v) (hR : ∀ g, R g → g < B) (hBbm : B ≤ bm) (hBfm : B ≤ fm) (hne : bm ≠ fm) (hBw : B ≤ w.heap.size)
    (hbm : BM w bm n Db) (hfm : FM w fm m Df) (hct : Cnt Db β) (hfd : Fnd Df φ) (hbd : ∀ x, 0 ≤ β x ∧ β x + t.bulk ≤ 4194304) (hn : n + 2 * t.bulk ≤ 1099511627776) (hm : m + t.bulk ≤ 1099511627776) :
    Calls Tryz.prog 60 #[v, .map (some bm), .map (some fm)] w fun e w' => e = .returned (.tuple #[]) ∧ ∃ (D E : DU), BM w' bm (n + 2 * t.bulk) D ∧ FM w' fm (m + t.bulk) E ∧ Cnt D β ∧ Fnd E (fun x => φ x || t.fv β x) ∧ Below B w w' ∧ MK bm fm w w' := by
  obtain ⟨A1, c1, A2, c2, A3, c3, rfl, hst, -, -, hkd⟩ := in_formR h
  obtain ⟨hl1, hl2, _, _, hl5⟩ := T.len_le hN
  have hbulk : sbulk t.ns + t.mg.length + t.nm.size + T.bulks t.ks + 1 = t.bulk := by
   cases t
   simp only [T.bulk, T.ns, T.mg, T.nm, T.ks]
   omega
  have hsbl := sbulk_len t.ns
  have hfv := fun x => T.fv_eq t β x
  obtain ⟨nm, hnm⟩ : ∃ x, t.nm = x := ⟨_, rfl⟩
  obtain ⟨ng, hng⟩ : ∃ x, t.ng = x := ⟨_, rfl⟩
  obtain ⟨n1, hn1⟩ : ∃ x, t.ns.length = x := ⟨_, rfl⟩
  obtain ⟨n2, hn2⟩ : ∃ x, t.mg.length = x := ⟨_, rfl⟩
  obtain ⟨n3, hn3⟩ : ∃ x, t.ks.length = x := ⟨_, rfl⟩
  obtain ⟨kk, hkk⟩ : ∃ x, t.k = x := ⟨_, rfl⟩
  rw [hkk] at h2 h21 h22 hfv
  rw [hnm] at hl1 hfv
  rw [hn3] at hkd hl5
  rw [hn1] at hsbl hl2
  rw [hkk, hnm, hng, hn1, hn2, hn3]
  obtain ⟨W, hW, ps, hbW⟩ := made_blk w #[.int .i64 kk, .string nm, .slice A1 n1 c1, .bool ng, .slice A2 n2 c2, .slice A3 n3 c3] 28
  obtain ⟨g, hg⟩ : ∃ g, g = w.heap.size := ⟨_, rfl⟩
  have hgb : g ≠ bm := by have := hbm.lt; omega
  have hgf : g ≠ fm := by have := hfm.lt; omega
  have HBM : Hid (BM W bm n Db) := Lib.hid (hW ▸ hbm.alloc _)
  have HFM : Hid (FM W fm m Df) := Lib.hid (hW ▸ hfm.alloc _)
  have HBW0 := Lib.hid (hbW.mono hBw)
  have HK0 : Hid (MK bm fm w W) := Lib.hid (MK.below hbW)
  have hBW := Nat.le_trans hBw hbW.size
  have HST := Lib.hid (hst.keep (fun p v hp hc => (HBW0.out.cell (hR _ hp)).trans hc) (fun _ h => h))
  rw [← hg] at ps
  have HR := Lib.hid hR
  have HKD := Lib.hid hkd
  have HN1 := Lib.hid hn1
  have HN3 := Lib.hid hn3
  have HNM := Lib.hid hnm
  have HFV := Lib.hid hfv
  have HC := Lib.hid hct
  have HF := Lib.hid hfd
  have HBD := Lib.hid hbd
  have hnmx : nm.size ≤ maxLen := by unfold maxLen; omega
  clear h hR hkd hn1 hn2 hn3 hnm hng hst hbW hBw hbm hfm hct hfd hbd hfv
  have d2 : (kk == 2) = false := by simpa using h2
  have d21 : (kk == 21) = false := by simpa using h21
  have d22 : (kk == 22) = false := by simpa using h22
  have HFQ : Hid (∀ x, t.fv β x = T.fvs t.ks β x) := Lib.hid (fun x => by rw [HFV.out x, d2]; unfold bnd; rw [if_neg (by omega)]; simp)
  clear h2 h21 h22
  have HBV := Lib.hid (Below.refl B W)
  have HKV : Hid (MK bm fm W W) := Lib.hid (MK.refl W)
  have HGM : Hid (∀ x, 0 ≤ β x ∧ β x + T.bulks t.ks ≤ 4194304) := Lib.hid (fun x => ⟨(HBD.out x).1, by have := (HBD.out x).2; omega⟩)
  have hnv : n + 2 * T.bulks t.ks ≤ 1099511627776 := by omega
  have hmv : m + T.bulks t.ks ≤ 1099511627776 := by omega
  have hbi := ih
  have HBK : Hid (∀ i, i < t.ks.length → (t.ks.getD i t0).bulk ≤ N ∧ ∀ x, 0 ≤ β x ∧ β x + (t.ks.getD i t0).bulk ≤ 4194304) := Lib.hid (fun i hi => ⟨T.kid_bulk hN hi, fun x => ⟨(HGM.out x).1, by have h1 := (HGM.out x).2; have h2 := T.bulk_kid t.ks i hi; omega⟩⟩)
  go_enter Tryz.func60, Tryz.ntmps60
  go_upto_region 1 with (fail)
  rw [← hW, ← hg]
  clear hW hg
  obtain ⟨x0, x1, x2, x3, x4, x5⟩ := ps.six
  go_wp2_with fail
  go_loopg [51] (n3 + 1) (fun gk v51 wr => ∃ (i : Nat) (D E : DU), gk + i = n3 + 1 ∧ i ≤ n3 ∧ v51 = .int .i64 (i : Nat) ∧ Hid (BM wr bm (n + 2 * T.bulks (t.ks.take i)) D) ∧ Hid (FM wr fm (m + T.bulks (t.ks.take i)) E) ∧ Hid (Cnt D β) ∧ Hid (Fnd E (fun x => φ x || T.fvs (t.ks.take i) β x)) ∧ Below B W wr ∧ Hid (MK bm fm W wr))
  case atStart => exact ⟨0, Db, Df, by omega, Nat.zero_le _, rfl, Lib.hid (by simpa [T.bulks] using HBM.out), Lib.hid (by simpa [T.bulks] using HFM.out), HC, Lib.hid (fun x => by rw [HF.out x]; simp [T.fvs]), HBV.out, HKV⟩
  case round =>
   obtain ⟨i, D, E, hi, hin, rfl, HBM', HFM', HC', HF', hbv, HKV'⟩ := hrel
   clear HBM HFM HC HF HKV HBV
   have HBV := Lib.hid hbv
   have hBr := Nat.le_trans hBW hbv.size
   clear hbv
   by_cases hlt : i < n3
   ·
    have hl0 : 0 < n3 := by omega
    obtain ⟨kb, ko, rfl, hRk, hI⟩ := HKD.out hl0
    have hkB := HR.out kb hRk
    obtain ⟨v0, v1, v2, v3, v4, v5, h6, hkI⟩ := T.Ins.get _ _ _ hI (by rw [HN3.out]; exact hlt)
    have hfk := HBK.out i (by rw [HN3.out]; exact hlt)
    have hbin := T.bulks_in t.ks i (by rw [HN3.out]; exact hlt)
    have hbs := T.bulks_snoc (t.ks.take i) (t.ks.getD i t0)
    have hfs := fun x => T.fvs_snoc β x (t.ks.take i) (t.ks.getD i t0)
    rw [← take_snoc _ t0 _ (by rw [HN3.out]; exact hlt)] at hbs hfs
    obtain ⟨k, hk⟩ : ∃ k, t.ks.getD i t0 = k := ⟨_, rfl⟩
    rw [hk] at hkI hfk hbin hbs hfs
    obtain ⟨B1, d1, q1, B2, d2, q2, B3, d3, q3, kkk, nmk, ngk, rfl, rfl, rfl, rfl, rfl, rfl⟩ := kid_form hkI
    have h61 := h6.keep (fun p v hp hc => (HBW0.out.cell (by rw [hp]; exact hkB)).trans hc)
    obtain ⟨e0, e1, e2, e3, e4, e5⟩ := h61.keep (fun p v hp hc => (HBV.out.cell (by rw [hp]; exact hkB)).trans hc)
    obtain ⟨V, hV, pv, hbV⟩ := made_blk wr #[.int .i64 kkk, .string nmk, .slice B1 q1 d1, .bool ngk, .slice B2 q2 d2, .slice B3 q3 d3] 28
    obtain ⟨gv, hgv⟩ : ∃ g, g = wr.heap.size := ⟨_, rfl⟩
    have HB2 : Hid (BM V bm (n + 2 * T.bulks (t.ks.take i)) D) := Lib.hid (hV ▸ HBM'.out.alloc _)
    have HF2 : Hid (FM V fm (m + T.bulks (t.ks.take i)) E) := Lib.hid (hV ▸ HFM'.out.alloc _)
    have HBVV := Lib.hid (HBV.out.trans (hbV.mono hBr))
    have HKVV := Lib.hid (HKV'.out.trans (MK.below hbV))
    have HKI := Lib.hid ((hkI.under HR.out HBW0.out).under HR.out HBVV.out)
    have hBV := Nat.le_trans hBr hbV.size
    rw [← hgv] at pv
    have HFK := Lib.hid hfk
    have HBS := Lib.hid hbs
    have HFS := Lib.hid hfs
    have HCE := Lib.hid (ih k V R _ B bm fm _ _ D E β (fun x => φ x || T.fvs (t.ks.take i) β x) hfk.1 (by omega) HKI.out HR.out hBbm hBfm hne hBV HB2.out HF2.out HC'.out HF'.out (fun x => ⟨(hfk.2 x).1, (hfk.2 x).2⟩) (by omega) (by omega))
    have hi0 : (0 : Int) ≤ i := by omega
    have hi1 : (i : Int) < n3 := by omega
    clear hbV h6 h61 hkI hfk hk hI hbs hfs hbin HBM' HFM' HC' HF' hRk HKV' hBr hBV
    go_upto_region 13 with (fail)
    rw [← hV, ← hgv]
    clear e0 e1 e2 e3 e4 e5 hV hgv
    obtain ⟨x0, x1, x2, x3, x4, x5⟩ := pv.six
    go_wp2_with (go_at_call 60; refine HCE.out.mono ?_; rintro e w5 ⟨rfl, D5, E5, hB5, hF5, hC5, hFd5, hbl5, hk5⟩)
    go_roundg (n3 - i)
    case measure => omega
    case rel => exact ⟨i + 1, D5, E5, by omega, by omega, by go_num, Lib.hid (by rw [HBS.out, Nat.mul_add, ← Nat.add_assoc]; exact hB5), Lib.hid (by rw [HBS.out, ← Nat.add_assoc]; exact hF5), Lib.hid hC5, Lib.hid (fun x => by rw [hFd5 x]; dsimp only; rw [HFS.out x, Bool.or_assoc]), HBVV.out.trans hbl5, Lib.hid (HKVV.out.trans hk5)⟩
   · have hfx : t.ks.take i = t.ks := by rw [List.take_of_length_le (by rw [HN3.out]; omega)]
     rw [hfx] at HBM' HFM' HF'
     clear hfx
     obtain rfl : n3 = i := by omega
     go_wp2_with fail
     go_end0
     exact ⟨rfl, D, E, HBM'.out.mono (by omega), HFM'.out.mono (by omega), HC'.out, fun x => by rw [HF'.out x]; dsimp only; rw [HFQ.out x], HBW0.out.trans HBV.out, HK0.out.trans HKV'.out⟩
end
section
open Go.RowKit
open Go.Shelf Go.Maps Go.Sort Go.WideMaps
set_option maxRecDepth 100000 in
set_option maxHeartbeats 4000000 in
theorem free_var0 (N : Nat) (hN2 : N + 1 ≤ 1048576) (ih : FreeW N) (t : T) (h2 : t.k = 2) (w : World) (R : Nat → Prop) (v : Value) (B bm fm n m : Nat) (Db Df : DU) (β : List UInt8 → Int) (φ : List UInt8 → Bool) (hN : t.bulk ≤ N + 1) (h : T.In w R t v) (hR : ∀ g, R g → g < B) (hBbm : B ≤ bm) (hBfm : B ≤ fm) (hne : bm ≠ fm) (hBw : B ≤ w.heap.size)
    (hbm : BM w bm n Db) (hfm : FM w fm m Df) (hct : Cnt Db β) (hfd : Fnd Df φ) (hbd : ∀ x, 0 ≤ β x ∧ β x + t.bulk ≤ 4194304) (hn : n + 2 * t.bulk ≤ 1099511627776) (hm : m + t.bulk ≤ 1099511627776) (hnq : (β t.nm.data.toList == 0) = false) :
    Calls Tryz.prog 60 #[v, .map (some bm), .map (some fm)] w fun e w' => e = .returned (.tuple #[]) ∧ ∃ (D E : DU), BM w' bm (n + 2 * t.bulk) D ∧ FM w' fm (m + t.bulk) E ∧ Cnt D β ∧ Fnd E (fun x => φ x || t.fv β x) ∧ Below B w w' ∧ MK bm fm w w' := by
  obtain ⟨A1, c1, A2, c2, A3, c3, rfl, hst, -, -, hkd⟩ := in_formR h
  obtain ⟨hl1, hl2, _, _, hl5⟩ := T.len_le hN
  have hbulk : sbulk t.ns + t.mg.length + t.nm.size + T.bulks t.ks + 1 = t.bulk := by
   cases t
   simp only [T.bulk, T.ns, T.mg, T.nm, T.ks]
   omega
  have hsbl := sbulk_len t.ns
  have hfv := fun x => T.fv_eq t β x
  obtain ⟨nm, hnm⟩ : ∃ x, t.nm = x := ⟨_, rfl⟩
  obtain ⟨ng, hng⟩ : ∃ x, t.ng = x := ⟨_, rfl⟩
  obtain ⟨n1, hn1⟩ : ∃ x, t.ns.length = x := ⟨_, rfl⟩
  obtain ⟨n2, hn2⟩ : ∃ x, t.mg.length = x := ⟨_, rfl⟩
  obtain ⟨n3, hn3⟩ : ∃ x, t.ks.length = x := ⟨_, rfl⟩
  obtain ⟨kk, hkk⟩ : ∃ x, t.k = x := ⟨_, rfl⟩
  rw [hkk] at h2 hfv
  rw [hnm] at hl1 hfv
  rw [hn3] at hkd hl5
  rw [hn1] at hsbl hl2
  rw [hkk, hnm, hng, hn1, hn2, hn3]
  obtain ⟨W, hW, ps, hbW⟩ := made_blk w #[.int .i64 kk, .string nm, .slice A1 n1 c1, .bool ng, .slice A2 n2 c2, .slice A3 n3 c3] 28
  obtain ⟨g, hg⟩ : ∃ g, g = w.heap.size := ⟨_, rfl⟩
  have hgb : g ≠ bm := by have := hbm.lt; omega
  have hgf : g ≠ fm := by have := hfm.lt; omega
  have HBM : Hid (BM W bm n Db) := Lib.hid (hW ▸ hbm.alloc _)
  have HFM : Hid (FM W fm m Df) := Lib.hid (hW ▸ hfm.alloc _)
  have HBW0 := Lib.hid (hbW.mono hBw)
  have HK0 : Hid (MK bm fm w W) := Lib.hid (MK.below hbW)
  have hBW := Nat.le_trans hBw hbW.size
  have HST := Lib.hid (hst.keep (fun p v hp hc => (HBW0.out.cell (hR _ hp)).trans hc) (fun _ h => h))
  rw [← hg] at ps
  have HR := Lib.hid hR
  have HKD := Lib.hid hkd
  have HN1 := Lib.hid hn1
  have HN3 := Lib.hid hn3
  have HNM := Lib.hid hnm
  have HFV := Lib.hid hfv
  have HC := Lib.hid hct
  have HF := Lib.hid hfd
  have HBD := Lib.hid hbd
  have hnmx : nm.size ≤ maxLen := by unfold maxLen; omega
  clear h hR hkd hn1 hn2 hn3 hnm hng hst hbW hBw hbm hfm hct hfd hbd hfv
  subst h2
  have hnq' : (β nm.data.toList == 0) = false := by rw [← hnq, HNM.out]
  have HNQ := Lib.hid hnq'
  clear hnq hnq'
  have HBV := Lib.hid (Below.refl B W)
  have HKV : Hid (MK bm fm W W) := Lib.hid (MK.refl W)
  have HFQ : Hid (∀ x, t.fv β x = T.fvs t.ks β x) := Lib.hid (fun x => by rw [HFV.out x, HNQ.out]; unfold bnd; rw [if_neg (by decide)]; simp)
  have HGM : Hid (∀ x, 0 ≤ β x ∧ β x + T.bulks t.ks ≤ 4194304) := Lib.hid (fun x => ⟨(HBD.out x).1, by have := (HBD.out x).2; omega⟩)
  have hnv : n + 2 * T.bulks t.ks ≤ 1099511627776 := by omega
  have hmv : m + T.bulks t.ks ≤ 1099511627776 := by omega
  have hbi := ih
  have HBK : Hid (∀ i, i < t.ks.length → (t.ks.getD i t0).bulk ≤ N ∧ ∀ x, 0 ≤ β x ∧ β x + (t.ks.getD i t0).bulk ≤ 4194304) := Lib.hid (fun i hi => ⟨T.kid_bulk hN hi, fun x => ⟨(HGM.out x).1, by have h1 := (HGM.out x).2; have h2 := T.bulk_kid t.ks i hi; omega⟩⟩)
  go_enter Tryz.func60, Tryz.ntmps60
  go_upto_region 1 with (fail)
  rw [← hW, ← hg]
  clear hW hg
  obtain ⟨x0, x1, x2, x3, x4, x5⟩ := ps.six
  go_upto_region 10 with (at_lookup; refine wpList_lookup_g _ (by rfl) _ _ 91 rfl 9 3 .i64 lawS Tryz.underlying91 Tryz.underlying3 (zeroI _) bm _ _ rfl HBM.out _ _ rfl (keyOf_string_mk Tryz.underlying9 hnmx) ?_; intro c hat _; have hc0 : (c == 0) = false := by rw [HC.out.at hat]; exact HNQ.out)
  clear hat hc0
  go_wp2_with fail
  go_loopg [51] (n3 + 1) (fun gk v51 wr => ∃ (i : Nat) (D E : DU), gk + i = n3 + 1 ∧ i ≤ n3 ∧ v51 = .int .i64 (i : Nat) ∧ Hid (BM wr bm (n + 2 * T.bulks (t.ks.take i)) D) ∧ Hid (FM wr fm (m + T.bulks (t.ks.take i)) E) ∧ Hid (Cnt D β) ∧ Hid (Fnd E (fun x => φ x || T.fvs (t.ks.take i) β x)) ∧ Below B W wr ∧ Hid (MK bm fm W wr))
  case atStart => exact ⟨0, Db, Df, by omega, Nat.zero_le _, rfl, Lib.hid (by simpa [T.bulks] using HBM.out), Lib.hid (by simpa [T.bulks] using HFM.out), HC, Lib.hid (fun x => by rw [HF.out x]; simp [T.fvs]), HBV.out, HKV⟩
  case round =>
   obtain ⟨i, D, E, hi, hin, rfl, HBM', HFM', HC', HF', hbv, HKV'⟩ := hrel
   clear HBM HFM HC HF HKV HBV
   have HBV := Lib.hid hbv
   have hBr := Nat.le_trans hBW hbv.size
   clear hbv
   by_cases hlt : i < n3
   ·
    have hl0 : 0 < n3 := by omega
    obtain ⟨kb, ko, rfl, hRk, hI⟩ := HKD.out hl0
    have hkB := HR.out kb hRk
    obtain ⟨v0, v1, v2, v3, v4, v5, h6, hkI⟩ := T.Ins.get _ _ _ hI (by rw [HN3.out]; exact hlt)
    have hfk := HBK.out i (by rw [HN3.out]; exact hlt)
    have hbin := T.bulks_in t.ks i (by rw [HN3.out]; exact hlt)
    have hbs := T.bulks_snoc (t.ks.take i) (t.ks.getD i t0)
    have hfs := fun x => T.fvs_snoc β x (t.ks.take i) (t.ks.getD i t0)
    rw [← take_snoc _ t0 _ (by rw [HN3.out]; exact hlt)] at hbs hfs
    obtain ⟨k, hk⟩ : ∃ k, t.ks.getD i t0 = k := ⟨_, rfl⟩
    rw [hk] at hkI hfk hbin hbs hfs
    obtain ⟨B1, d1, q1, B2, d2, q2, B3, d3, q3, kkk, nmk, ngk, rfl, rfl, rfl, rfl, rfl, rfl⟩ := kid_form hkI
    have h61 := h6.keep (fun p v hp hc => (HBW0.out.cell (by rw [hp]; exact hkB)).trans hc)
    obtain ⟨e0, e1, e2, e3, e4, e5⟩ := h61.keep (fun p v hp hc => (HBV.out.cell (by rw [hp]; exact hkB)).trans hc)
    obtain ⟨V, hV, pv, hbV⟩ := made_blk wr #[.int .i64 kkk, .string nmk, .slice B1 q1 d1, .bool ngk, .slice B2 q2 d2, .slice B3 q3 d3] 28
    obtain ⟨gv, hgv⟩ : ∃ g, g = wr.heap.size := ⟨_, rfl⟩
    have HB2 : Hid (BM V bm (n + 2 * T.bulks (t.ks.take i)) D) := Lib.hid (hV ▸ HBM'.out.alloc _)
    have HF2 : Hid (FM V fm (m + T.bulks (t.ks.take i)) E) := Lib.hid (hV ▸ HFM'.out.alloc _)
    have HBVV := Lib.hid (HBV.out.trans (hbV.mono hBr))
    have HKVV := Lib.hid (HKV'.out.trans (MK.below hbV))
    have HKI := Lib.hid ((hkI.under HR.out HBW0.out).under HR.out HBVV.out)
    have hBV := Nat.le_trans hBr hbV.size
    rw [← hgv] at pv
    have HFK := Lib.hid hfk
    have HBS := Lib.hid hbs
    have HFS := Lib.hid hfs
    have HCE := Lib.hid (ih k V R _ B bm fm _ _ D E β (fun x => φ x || T.fvs (t.ks.take i) β x) hfk.1 (by omega) HKI.out HR.out hBbm hBfm hne hBV HB2.out HF2.out HC'.out HF'.out (fun x => ⟨(hfk.2 x).1, (hfk.2 x).2⟩) (by omega) (by omega))
    have hi0 : (0 : Int) ≤ i := by omega
    have hi1 : (i : Int) < n3 := by omega
    clear hbV h6 h61 hkI hfk hk hI hbs hfs hbin HBM' HFM' HC' HF' hRk HKV' hBr hBV
    go_upto_region 13 with (fail)
    rw [← hV, ← hgv]
    clear e0 e1 e2 e3 e4 e5 hV hgv
    obtain ⟨x0, x1, x2, x3, x4, x5⟩ := pv.six
    go_wp2_with (go_at_call 60; refine HCE.out.mono ?_; rintro e w5 ⟨rfl, D5, E5, hB5, hF5, hC5, hFd5, hbl5, hk5⟩)
    go_roundg (n3 - i)
    case measure => omega
    case rel => exact ⟨i + 1, D5, E5, by omega, by omega, by go_num, Lib.hid (by rw [HBS.out, Nat.mul_add, ← Nat.add_assoc]; exact hB5), Lib.hid (by rw [HBS.out, ← Nat.add_assoc]; exact hF5), Lib.hid hC5, Lib.hid (fun x => by rw [hFd5 x]; dsimp only; rw [HFS.out x, Bool.or_assoc]), HBVV.out.trans hbl5, Lib.hid (HKVV.out.trans hk5)⟩
   · have hfx : t.ks.take i = t.ks := by rw [List.take_of_length_le (by rw [HN3.out]; omega)]
     rw [hfx] at HBM' HFM' HF'
     clear hfx
     obtain rfl : n3 = i := by omega
     go_wp2_with fail
     go_end0
     exact ⟨rfl, D, E, HBM'.out.mono (by omega), HFM'.out.mono (by omega), HC'.out, fun x => by rw [HF'.out x]; dsimp only; rw [HFQ.out x], HBW0.out.trans HBV.out, HK0.out.trans HKV'.out⟩
set_option maxRecDepth 100000 in
set_option maxHeartbeats 4000000 in
theorem free_var1 (N : Nat) (hN2 : N + 1 ≤ 1048576) (ih : FreeW N) (t : T) (h2 : t.k = 2) (w : World) (R : Nat → Prop) (v : Value) (B bm fm n m : Nat) (Db Df : DU) (β : List UInt8 → Int) (φ : List UInt8 → Bool) (hN : t.bulk ≤ N + 1) (h : T.In w R t v) (hR : ∀ g, R g → g < B) (hBbm : B ≤ bm) (hBfm : B ≤ fm) (hne : bm ≠ fm) (hBw : B ≤ w.heap.size)
    (hbm : BM w bm n Db) (hfm : FM w fm m Df) (hct : Cnt Db β) (hfd : Fnd Df φ) (hbd : ∀ x, 0 ≤ β x ∧ β x + t.bulk ≤ 4194304) (hn : n + 2 * t.bulk ≤ 1099511627776) (hm : m + t.bulk ≤ 1099511627776) (hnq : (β t.nm.data.toList == 0) = true) :
    Calls Tryz.prog 60 #[v, .map (some bm), .map (some fm)] w fun e w' => e = .returned (.tuple #[]) ∧ ∃ (D E : DU), BM w' bm (n + 2 * t.bulk) D ∧ FM w' fm (m + t.bulk) E ∧ Cnt D β ∧ Fnd E (fun x => φ x || t.fv β x) ∧ Below B w w' ∧ MK bm fm w w' := by
  obtain ⟨A1, c1, A2, c2, A3, c3, rfl, hst, -, -, hkd⟩ := in_formR h
  obtain ⟨hl1, hl2, _, _, hl5⟩ := T.len_le hN
  have hbulk : sbulk t.ns + t.mg.length + t.nm.size + T.bulks t.ks + 1 = t.bulk := by
   cases t
   simp only [T.bulk, T.ns, T.mg, T.nm, T.ks]
   omega
  have hsbl := sbulk_len t.ns
  have hfv := fun x => T.fv_eq t β x
  obtain ⟨nm, hnm⟩ : ∃ x, t.nm = x := ⟨_, rfl⟩
  obtain ⟨ng, hng⟩ : ∃ x, t.ng = x := ⟨_, rfl⟩
  obtain ⟨n1, hn1⟩ : ∃ x, t.ns.length = x := ⟨_, rfl⟩
  obtain ⟨n2, hn2⟩ : ∃ x, t.mg.length = x := ⟨_, rfl⟩
  obtain ⟨n3, hn3⟩ : ∃ x, t.ks.length = x := ⟨_, rfl⟩
  obtain ⟨kk, hkk⟩ : ∃ x, t.k = x := ⟨_, rfl⟩
  rw [hkk] at h2 hfv
  rw [hnm] at hl1 hfv
  rw [hn3] at hkd hl5
  rw [hn1] at hsbl hl2
  rw [hkk, hnm, hng, hn1, hn2, hn3]
  obtain ⟨W, hW, ps, hbW⟩ := made_blk w #[.int .i64 kk, .string nm, .slice A1 n1 c1, .bool ng, .slice A2 n2 c2, .slice A3 n3 c3] 28
  obtain ⟨g, hg⟩ : ∃ g, g = w.heap.size := ⟨_, rfl⟩
  have hgb : g ≠ bm := by have := hbm.lt; omega
  have hgf : g ≠ fm := by have := hfm.lt; omega
  have HBM : Hid (BM W bm n Db) := Lib.hid (hW ▸ hbm.alloc _)
  have HFM : Hid (FM W fm m Df) := Lib.hid (hW ▸ hfm.alloc _)
  have HBW0 := Lib.hid (hbW.mono hBw)
  have HK0 : Hid (MK bm fm w W) := Lib.hid (MK.below hbW)
  have hBW := Nat.le_trans hBw hbW.size
  have HST := Lib.hid (hst.keep (fun p v hp hc => (HBW0.out.cell (hR _ hp)).trans hc) (fun _ h => h))
  rw [← hg] at ps
  have HR := Lib.hid hR
  have HKD := Lib.hid hkd
  have HN1 := Lib.hid hn1
  have HN3 := Lib.hid hn3
  have HNM := Lib.hid hnm
  have HFV := Lib.hid hfv
  have HC := Lib.hid hct
  have HF := Lib.hid hfd
  have HBD := Lib.hid hbd
  have hnmx : nm.size ≤ maxLen := by unfold maxLen; omega
  clear h hR hkd hn1 hn2 hn3 hnm hng hst hbW hBw hbm hfm hct hfd hbd hfv
  subst h2
  have hnq' : (β nm.data.toList == 0) = true := by rw [← hnq, HNM.out]
  have HNQ := Lib.hid hnq'
  clear hnq hnq'
  have HBV := Lib.hid (Below.refl B W)
  have HKV : Hid (MK bm fm W W) := Lib.hid (MK.refl W)
  obtain ⟨ψ, hψ⟩ : ∃ ψ : List UInt8 → Bool, ψ = fun x => φ x || decide (x = nm.data.toList) := ⟨_, rfl⟩
  have HPS := Lib.hid hψ
  clear hψ
  have HFQ : Hid (∀ x, (φ x || t.fv β x) = (ψ x || T.fvs t.ks β x)) := Lib.hid (fun x => by rw [HFV.out x, HNQ.out, HPS.out]; unfold bnd; rw [if_neg (by decide)]; simp [Bool.or_assoc])
  have HGM : Hid (∀ x, 0 ≤ β x ∧ β x + T.bulks t.ks ≤ 4194304) := Lib.hid (fun x => ⟨(HBD.out x).1, by have := (HBD.out x).2; omega⟩)
  have hnv : n + 2 * T.bulks t.ks ≤ 1099511627776 := by omega
  have hmv : (m + 1) + T.bulks t.ks ≤ 1099511627776 := by omega
  have hbi := ih
  have HBK : Hid (∀ i, i < t.ks.length → (t.ks.getD i t0).bulk ≤ N ∧ ∀ x, 0 ≤ β x ∧ β x + (t.ks.getD i t0).bulk ≤ 4194304) := Lib.hid (fun i hi => ⟨T.kid_bulk hN hi, fun x => ⟨(HGM.out x).1, by have h1 := (HGM.out x).2; have h2 := T.bulk_kid t.ks i hi; omega⟩⟩)
  go_enter Tryz.func60, Tryz.ntmps60
  go_upto_region 1 with (fail)
  rw [← hW, ← hg]
  clear hW hg
  obtain ⟨x0, x1, x2, x3, x4, x5⟩ := ps.six
  go_upto_region 3 with (first | (at_lookup; refine wpList_lookup_g _ (by rfl) _ _ 91 rfl 9 3 .i64 lawS Tryz.underlying91 Tryz.underlying3 (zeroI _) bm _ _ rfl HBM.out _ _ rfl (keyOf_string_mk Tryz.underlying9 hnmx) ?_; intro c hat _; have hc0 : (c == 0) = true := by rw [HC.out.at hat]; exact HNQ.out) | (at_mapUpdate; refine wpList_mapUpdate_own _ rfl _ _ _ 90 rfl 9 130 lawS Tryz.underlying90 _ fm m _ rfl HFM.out (by unfold maxLen; omega) _ _ _ rfl rfl (keyOf_string_mk Tryz.underlying9 hnmx) _ [] unitElem_mk ?_; intro w1 hown1 hgr1))
  have HFM1 : Hid (FM w1 fm (m + 1) (Df.put (.string nm.data.toList) (.agg []))) := Lib.hid hown1
  have HBM1 : Hid (BM w1 bm n Db) := Lib.hid (HBM.out.kept hgr1 (by simpa using hne))
  have HF1 : Hid (Fnd (Df.put (.string nm.data.toList) (.agg [])) ψ) := Lib.hid (by rw [HPS.out]; exact HF.out.put HFM.out.isMap hnmx _)
  have HBV1 := Lib.hid (below_map HBV.out hgr1 hBfm hBW)
  have hk1 : MK bm fm W w1 := MK.grown hgr1 (.inr rfl)
  have HKV1 := Lib.hid hk1
  have ps1 := hk1.blk ps hgb hgf
  have hsz1 := hgr1.size
  clear hat hc0 hown1 hgr1 hk1 ps HFM HBM HF HBV HKV x0 x1 x2 x3 x4 x5
  obtain ⟨x0, x1, x2, x3, x4, x5⟩ := ps1.six
  have HFM := HFM1
  have HBM := HBM1
  have HF := HF1
  have HBV := HBV1
  have HKV := HKV1
  clear HFM1 HBM1 HF1 HBV1 HKV1
  go_wp2_with fail
  go_loopg [51] (n3 + 1) (fun gk v51 wr => ∃ (i : Nat) (D E : DU), gk + i = n3 + 1 ∧ i ≤ n3 ∧ v51 = .int .i64 (i : Nat) ∧ Hid (BM wr bm (n + 2 * T.bulks (t.ks.take i)) D) ∧ Hid (FM wr fm ((m + 1) + T.bulks (t.ks.take i)) E) ∧ Hid (Cnt D β) ∧ Hid (Fnd E (fun x => ψ x || T.fvs (t.ks.take i) β x)) ∧ Below B W wr ∧ Hid (MK bm fm W wr))
  case atStart => exact ⟨0, Db, (Df.put (.string nm.data.toList) (.agg [])), by omega, Nat.zero_le _, rfl, Lib.hid (by simpa [T.bulks] using HBM.out), Lib.hid (by simpa [T.bulks] using HFM.out), HC, Lib.hid (fun x => by rw [HF.out x]; simp [T.fvs]), HBV.out, HKV⟩
  case round =>
   obtain ⟨i, D, E, hi, hin, rfl, HBM', HFM', HC', HF', hbv, HKV'⟩ := hrel
   clear HBM HFM HC HF HKV HBV
   have HBV := Lib.hid hbv
   have hBr := Nat.le_trans hBW hbv.size
   clear hbv
   by_cases hlt : i < n3
   ·
    have hl0 : 0 < n3 := by omega
    obtain ⟨kb, ko, rfl, hRk, hI⟩ := HKD.out hl0
    have hkB := HR.out kb hRk
    obtain ⟨v0, v1, v2, v3, v4, v5, h6, hkI⟩ := T.Ins.get _ _ _ hI (by rw [HN3.out]; exact hlt)
    have hfk := HBK.out i (by rw [HN3.out]; exact hlt)
    have hbin := T.bulks_in t.ks i (by rw [HN3.out]; exact hlt)
    have hbs := T.bulks_snoc (t.ks.take i) (t.ks.getD i t0)
    have hfs := fun x => T.fvs_snoc β x (t.ks.take i) (t.ks.getD i t0)
    rw [← take_snoc _ t0 _ (by rw [HN3.out]; exact hlt)] at hbs hfs
    obtain ⟨k, hk⟩ : ∃ k, t.ks.getD i t0 = k := ⟨_, rfl⟩
    rw [hk] at hkI hfk hbin hbs hfs
    obtain ⟨B1, d1, q1, B2, d2, q2, B3, d3, q3, kkk, nmk, ngk, rfl, rfl, rfl, rfl, rfl, rfl⟩ := kid_form hkI
    have h61 := h6.keep (fun p v hp hc => (HBW0.out.cell (by rw [hp]; exact hkB)).trans hc)
    obtain ⟨e0, e1, e2, e3, e4, e5⟩ := h61.keep (fun p v hp hc => (HBV.out.cell (by rw [hp]; exact hkB)).trans hc)
    obtain ⟨V, hV, pv, hbV⟩ := made_blk wr #[.int .i64 kkk, .string nmk, .slice B1 q1 d1, .bool ngk, .slice B2 q2 d2, .slice B3 q3 d3] 28
    obtain ⟨gv, hgv⟩ : ∃ g, g = wr.heap.size := ⟨_, rfl⟩
    have HB2 : Hid (BM V bm (n + 2 * T.bulks (t.ks.take i)) D) := Lib.hid (hV ▸ HBM'.out.alloc _)
    have HF2 : Hid (FM V fm ((m + 1) + T.bulks (t.ks.take i)) E) := Lib.hid (hV ▸ HFM'.out.alloc _)
    have HBVV := Lib.hid (HBV.out.trans (hbV.mono hBr))
    have HKVV := Lib.hid (HKV'.out.trans (MK.below hbV))
    have HKI := Lib.hid ((hkI.under HR.out HBW0.out).under HR.out HBVV.out)
    have hBV := Nat.le_trans hBr hbV.size
    rw [← hgv] at pv
    have HFK := Lib.hid hfk
    have HBS := Lib.hid hbs
    have HFS := Lib.hid hfs
    have HCE := Lib.hid (ih k V R _ B bm fm _ _ D E β (fun x => ψ x || T.fvs (t.ks.take i) β x) hfk.1 (by omega) HKI.out HR.out hBbm hBfm hne hBV HB2.out HF2.out HC'.out HF'.out (fun x => ⟨(hfk.2 x).1, (hfk.2 x).2⟩) (by omega) (by omega))
    have hi0 : (0 : Int) ≤ i := by omega
    have hi1 : (i : Int) < n3 := by omega
    clear hbV h6 h61 hkI hfk hk hI hbs hfs hbin HBM' HFM' HC' HF' hRk HKV' hBr hBV
    go_upto_region 13 with (fail)
    rw [← hV, ← hgv]
    clear e0 e1 e2 e3 e4 e5 hV hgv
    obtain ⟨x0, x1, x2, x3, x4, x5⟩ := pv.six
    go_wp2_with (go_at_call 60; refine HCE.out.mono ?_; rintro e w5 ⟨rfl, D5, E5, hB5, hF5, hC5, hFd5, hbl5, hk5⟩)
    go_roundg (n3 - i)
    case measure => omega
    case rel => exact ⟨i + 1, D5, E5, by omega, by omega, by go_num, Lib.hid (by rw [HBS.out, Nat.mul_add, ← Nat.add_assoc]; exact hB5), Lib.hid (by rw [HBS.out, ← Nat.add_assoc]; exact hF5), Lib.hid hC5, Lib.hid (fun x => by rw [hFd5 x]; dsimp only; rw [HFS.out x, Bool.or_assoc]), HBVV.out.trans hbl5, Lib.hid (HKVV.out.trans hk5)⟩
   · have hfx : t.ks.take i = t.ks := by rw [List.take_of_length_le (by rw [HN3.out]; omega)]
     rw [hfx] at HBM' HFM' HF'
     clear hfx
     obtain rfl : n3 = i := by omega
     go_wp2_with fail
     go_end0
     exact ⟨rfl, D, E, HBM'.out.mono (by omega), HFM'.out.mono (by omega), HC'.out, fun x => by rw [HF'.out x]; exact (HFQ.out x).symm, HBW0.out.trans HBV.out, HK0.out.trans HKV'.out⟩
end
section
open Go.RowKit
open Go.Shelf Go.Maps Go.Sort Go.WideMaps
theorem cntL_take (ns : List ByteArray) (i : Nat) (x : List UInt8) : cntL (ns.take i) x ≤ cntL ns x := by
 unfold cntL
 have := ((List.take_sublist i ns).filter (fun s : ByteArray => decide (s.data.toList = x))).length_le
 omega
set_option maxRecDepth 100000 in
set_option maxHeartbeats 4000000 in
theorem free_bind21 (N : Nat) (hN2 : N + 1 ≤ 1048576) (ih : FreeW N) (t : T) (h2 : t.k = 21) (w : World) (R : Nat → Prop) (v : Value) (B bm fm n m : Nat) (Db Df : DU) (β : List UInt8 → Int) (φ : List UInt8 → Bool) (hN : t.bulk ≤ N + 1) (h : T.In w R t v) (hR : ∀ g, R g → g < B) (hBbm : B ≤ bm) (hBfm : B ≤ fm) (hne : bm ≠ fm) (hBw : B ≤ w.heap.size)
    (hbm : BM w bm n Db) (hfm : FM w fm m Df) (hct : Cnt Db β) (hfd : Fnd Df φ) (hbd : ∀ x, 0 ≤ β x ∧ β x + t.bulk ≤ 4194304) (hn : n + 2 * t.bulk ≤ 1099511627776) (hm : m + t.bulk ≤ 1099511627776) :
    Calls Tryz.prog 60 #[v, .map (some bm), .map (some fm)] w fun e w' => e = .returned (.tuple #[]) ∧ ∃ (D E : DU), BM w' bm (n + 2 * t.bulk) D ∧ FM w' fm (m + t.bulk) E ∧ Cnt D β ∧ Fnd E (fun x => φ x || t.fv β x) ∧ Below B w w' ∧ MK bm fm w w' := by
  obtain ⟨A1, c1, A2, c2, A3, c3, rfl, hst, -, -, hkd⟩ := in_formR h
  obtain ⟨hl1, hl2, _, _, hl5⟩ := T.len_le hN
  have hbulk : sbulk t.ns + t.mg.length + t.nm.size + T.bulks t.ks + 1 = t.bulk := by
   cases t
   simp only [T.bulk, T.ns, T.mg, T.nm, T.ks]
   omega
  have hsbl := sbulk_len t.ns
  have hfv := fun x => T.fv_eq t β x
  obtain ⟨nm, hnm⟩ : ∃ x, t.nm = x := ⟨_, rfl⟩
  obtain ⟨ng, hng⟩ : ∃ x, t.ng = x := ⟨_, rfl⟩
  obtain ⟨n1, hn1⟩ : ∃ x, t.ns.length = x := ⟨_, rfl⟩
  obtain ⟨n2, hn2⟩ : ∃ x, t.mg.length = x := ⟨_, rfl⟩
  obtain ⟨n3, hn3⟩ : ∃ x, t.ks.length = x := ⟨_, rfl⟩
  obtain ⟨kk, hkk⟩ : ∃ x, t.k = x := ⟨_, rfl⟩
  rw [hkk] at h2 hfv
  rw [hnm] at hl1 hfv
  rw [hn3] at hkd hl5
  rw [hn1] at hsbl hl2
  rw [hkk, hnm, hng, hn1, hn2, hn3]
  obtain ⟨W, hW, ps, hbW⟩ := made_blk w #[.int .i64 kk, .string nm, .slice A1 n1 c1, .bool ng, .slice A2 n2 c2, .slice A3 n3 c3] 28
  obtain ⟨g, hg⟩ : ∃ g, g = w.heap.size := ⟨_, rfl⟩
  have hgb : g ≠ bm := by have := hbm.lt; omega
  have hgf : g ≠ fm := by have := hfm.lt; omega
  have HBM : Hid (BM W bm n Db) := Lib.hid (hW ▸ hbm.alloc _)
  have HFM : Hid (FM W fm m Df) := Lib.hid (hW ▸ hfm.alloc _)
  have HBW0 := Lib.hid (hbW.mono hBw)
  have HK0 : Hid (MK bm fm w W) := Lib.hid (MK.below hbW)
  have hBW := Nat.le_trans hBw hbW.size
  have HST := Lib.hid (hst.keep (fun p v hp hc => (HBW0.out.cell (hR _ hp)).trans hc) (fun _ h => h))
  rw [← hg] at ps
  have HR := Lib.hid hR
  have HKD := Lib.hid hkd
  have HN1 := Lib.hid hn1
  have HN3 := Lib.hid hn3
  have HNM := Lib.hid hnm
  have HFV := Lib.hid hfv
  have HC := Lib.hid hct
  have HF := Lib.hid hfd
  have HBD := Lib.hid hbd
  have hnmx : nm.size ≤ maxLen := by unfold maxLen; omega
  clear h hR hkd hn1 hn2 hn3 hnm hng hst hbW hBw hbm hfm hct hfd hbd hfv
  subst h2
  obtain ⟨γ, hγ⟩ : ∃ γ : List UInt8 → Int, γ = fun y => β y + cntL t.ns y := ⟨_, rfl⟩
  have HGA := Lib.hid hγ
  have HFQ : Hid (∀ x, t.fv β x = T.fvs t.ks γ x) := Lib.hid (fun x => by rw [HFV.out x, HGA.out]; unfold bnd; rw [if_pos (by decide)]; rfl)
  have HGM : Hid (∀ x, 0 ≤ γ x ∧ γ x + T.bulks t.ks ≤ 4194304) := Lib.hid (fun x => by
   rw [HGA.out]
   have h1 := HBD.out x
   have h2 := cntL_nonneg t.ns x
   have h3 := cntL_le t.ns x
   have h4 := HN1.out
   dsimp only
   omega)
  have HGN : Hid (∀ x, cntL t.ns x ≤ γ x ∧ γ x ≤ 4194304) := Lib.hid (fun x => by
   have h2 := (HGM.out x).2
   have h1 := HBD.out x
   refine ⟨?_, by omega⟩
   rw [HGA.out]
   dsimp only
   omega)
  clear hγ
  have HBV := Lib.hid (Below.refl B W)
  have HKV : Hid (MK bm fm W W) := Lib.hid (MK.refl W)
  have hbi := ih
  have HBK : Hid (∀ i, i < t.ks.length → (t.ks.getD i t0).bulk ≤ N ∧ ∀ x, 0 ≤ γ x ∧ γ x + (t.ks.getD i t0).bulk ≤ 4194304) := Lib.hid (fun i hi => ⟨T.kid_bulk hN hi, fun x => ⟨(HGM.out x).1, by have h1 := (HGM.out x).2; have h2 := T.bulk_kid t.ks i hi; omega⟩⟩)
  go_enter Tryz.func60, Tryz.ntmps60
  go_upto_region 1 with (fail)
  rw [← hW, ← hg]
  clear hW hg
  obtain ⟨x0, x1, x2, x3, x4, x5⟩ := ps.six
  go_wp2_with fail
  go_loopg [39] (n1 + 1) (fun gk vv wr => ∃ (i : Nat) (D : DU), gk + i = n1 + 1 ∧ i ≤ n1 ∧ vv = .int .i64 (i : Nat) ∧ Hid (BM wr bm (n + i) D) ∧ Hid (FM wr fm m Df) ∧ Hid (Cnt D (fun y => β y + cntL (t.ns.take i) y)) ∧ Below B W wr ∧ Hid (MK bm fm W wr))
  case atStart => exact ⟨0, Db, by omega, Nat.zero_le _, rfl, HBM, HFM, Lib.hid (fun x => by rw [HC.out x]; simp [cntL_nil]), HBV.out, HKV⟩
  case round =>
   obtain ⟨i, D, hi, hin, rfl, HBM', HFM', HC', hbv, HKV'⟩ := hrel
   clear HBM HFM HC HKV HBV
   have HBV := Lib.hid hbv
   have hBr := Nat.le_trans hBW hbv.size
   clear hbv
   by_cases hlt : i < n1
   ·
    have hl0 : 0 < n1 := by omega
    obtain ⟨nbk, no, rfl, hRn, hnc⟩ := HST.out.2 (by rw [HN1.out]; exact hl0)
    have hcell := hnc i (by rw [HN1.out]; exact hlt)
    have hsz := sbulk_get t.ns i (by rw [HN1.out]; exact hlt)
    have hsn := fun x => cntL_snoc (t.ns.take i) (t.ns.getD i ⟨#[]⟩) x
    rw [← take_snoc _ (⟨#[]⟩ : ByteArray) _ (by rw [HN1.out]; exact hlt)] at hsn
    obtain ⟨s, hs⟩ : ∃ s, t.ns.getD i ⟨#[]⟩ = s := ⟨_, rfl⟩
    rw [hs] at hcell hsz hsn
    have e0 := (HBV.out.cell (by exact HR.out nbk hRn)).trans hcell
    have hsm : s.size ≤ maxLen := by unfold maxLen; omega
    have HSN := Lib.hid hsn
    have HCB := Lib.hid (cntL_nonneg (t.ns.take i) s.data.toList)
    have HCT := Lib.hid (cntL_take t.ns i s.data.toList)
    have HCL := Lib.hid (cntL_le t.ns s.data.toList)
    have hi0 : (0 : Int) ≤ i := by omega
    have hi1 : (i : Int) < n1 := by omega
    clear hcell hnc hsn hs hRn hsz
    go_wp2_with (first
     | (at_lookup; refine wpList_lookup_own_int _ rfl _ _ 91 rfl 9 3 .i64 lawS Tryz.underlying91 Tryz.underlying3 (zeroI _) bm _ _ rfl HBM'.out _ _ rfl (keyOf_string_mk Tryz.underlying9 hsm) ?_; intro c hat _; have hcc : c = β s.data.toList + cntL (t.ns.take i) s.data.toList := HC'.out.at hat; have hc1 : 0 ≤ c := (by have h1 := (HBD.out s.data.toList).1; have h2 := HCB.out; have h3 := HCT.out; have h4 := HCL.out; have h5 := HN1.out; omega); have hc2 : c ≤ 8388608 := (by have h1 := (HBD.out s.data.toList).2; have h2 := HCB.out; have h3 := HCT.out; have h4 := HCL.out; have h5 := HN1.out; omega); have HCC := Lib.hid hcc; clear hcc hat)
     | (at_mapUpdate; refine wpList_mapUpdate_own _ rfl _ _ _ 91 rfl 9 3 lawS Tryz.underlying91 _ bm (n + i) _ rfl HBM'.out (by unfold maxLen; omega) _ _ _ rfl rfl (keyOf_string_mk Tryz.underlying9 hsm) _ [] (plainElem_int Tryz.underlying3 (WalkArith.wf_i64 (by omega))) ?_; intro w1 hown1 hgr1))
    have hbv1 := below_map HBV.out hgr1 hBbm hBr
    have hval : (fun y => β y + cntL (t.ns.take (i + 1)) y) s.data.toList = c + 1 := by
     dsimp only
     rw [HSN.out, if_pos rfl, HCC.out]
     omega
    have hput : Cnt (D.put (.string s.data.toList) (.lit (.int .i64 (c + 1)))) (fun y => β y + cntL (t.ns.take (i + 1)) y) := by
     rw [← hval]
     exact Cnt.put (β' := fun y => β y + cntL (t.ns.take (i + 1)) y) HC'.out HBM'.out.isMap hsm (fun x hx => by rw [HSN.out, if_neg hx, Int.add_zero])
    have HP := Lib.hid hput
    have HO := Lib.hid hown1
    have hfm1 : Hid (FM w1 fm m Df) := Lib.hid (HFM'.out.kept hgr1 (by simp; omega))
    have hk1 : Hid (MK bm fm W w1) := Lib.hid (HKV'.out.trans (MK.grown hgr1 (.inl rfl)))
    clear hput hown1 hgr1 hval
    go_roundg (n1 - i)
    case measure => omega
    case rel => exact ⟨i + 1, _, by omega, by omega, by go_num, HO, hfm1, HP, hbv1, hk1⟩
   ·
    have hfx : t.ns.take i = t.ns := by rw [List.take_of_length_le (by rw [HN1.out]; omega)]
    rw [hfx] at HC'
    clear hfx
    obtain rfl : n1 = i := by omega
    have ps2 := HKV'.out.blk ps hgb hgf
    clear x0 x1 x2 x3 x4 x5
    obtain ⟨x0, x1, x2, x3, x4, x5⟩ := ps2.six
    have HBM := HBM'
    have HFM := HFM'
    have HC : Hid (Cnt D γ) := Lib.hid (by rw [HGA.out]; exact HC'.out)
    have HKV := HKV'
    clear HBM' HFM' HC' HKV' hBr
    go_wp2_with fail
    go_loopg [51] (n3 + 1) (fun gk v51 wr => ∃ (i : Nat) (D E : DU), gk + i = n3 + 1 ∧ i ≤ n3 ∧ v51 = .int .i64 (i : Nat) ∧ Hid (BM wr bm ((n + n1) + 2 * T.bulks (t.ks.take i)) D) ∧ Hid (FM wr fm (m + T.bulks (t.ks.take i)) E) ∧ Hid (Cnt D γ) ∧ Hid (Fnd E (fun x => φ x || T.fvs (t.ks.take i) γ x)) ∧ Below B W wr ∧ Hid (MK bm fm W wr))
    case atStart => exact ⟨0, D, Df, by omega, Nat.zero_le _, rfl, Lib.hid (by simpa [T.bulks] using HBM.out), Lib.hid (by simpa [T.bulks] using HFM.out), HC, Lib.hid (fun x => by rw [HF.out x]; simp [T.fvs]), HBV.out, HKV⟩
    case round =>
     obtain ⟨i, D, E, hi, hin, rfl, HBM', HFM', HC', HF', hbv, HKV'⟩ := hrel
     clear HBM HFM HC HF HKV HBV
     have HBV := Lib.hid hbv
     have hBr := Nat.le_trans hBW hbv.size
     clear hbv
     by_cases hlt : i < n3
     ·
      have hl0 : 0 < n3 := by omega
      obtain ⟨kb, ko, rfl, hRk, hI⟩ := HKD.out hl0
      have hkB := HR.out kb hRk
      obtain ⟨v0, v1, v2, v3, v4, v5, h6, hkI⟩ := T.Ins.get _ _ _ hI (by rw [HN3.out]; exact hlt)
      have hfk := HBK.out i (by rw [HN3.out]; exact hlt)
      have hbin := T.bulks_in t.ks i (by rw [HN3.out]; exact hlt)
      have hbs := T.bulks_snoc (t.ks.take i) (t.ks.getD i t0)
      have hfs := fun x => T.fvs_snoc γ x (t.ks.take i) (t.ks.getD i t0)
      rw [← take_snoc _ t0 _ (by rw [HN3.out]; exact hlt)] at hbs hfs
      obtain ⟨k, hk⟩ : ∃ k, t.ks.getD i t0 = k := ⟨_, rfl⟩
      rw [hk] at hkI hfk hbin hbs hfs
      obtain ⟨B1, d1, q1, B2, d2, q2, B3, d3, q3, kkk, nmk, ngk, rfl, rfl, rfl, rfl, rfl, rfl⟩ := kid_form hkI
      have h61 := h6.keep (fun p v hp hc => (HBW0.out.cell (by rw [hp]; exact hkB)).trans hc)
      obtain ⟨e0, e1, e2, e3, e4, e5⟩ := h61.keep (fun p v hp hc => (HBV.out.cell (by rw [hp]; exact hkB)).trans hc)
      obtain ⟨V, hV, pv, hbV⟩ := made_blk wr #[.int .i64 kkk, .string nmk, .slice B1 q1 d1, .bool ngk, .slice B2 q2 d2, .slice B3 q3 d3] 28
      obtain ⟨gv, hgv⟩ : ∃ g, g = wr.heap.size := ⟨_, rfl⟩
      have HB2 : Hid (BM V bm ((n + n1) + 2 * T.bulks (t.ks.take i)) D) := Lib.hid (hV ▸ HBM'.out.alloc _)
      have HF2 : Hid (FM V fm (m + T.bulks (t.ks.take i)) E) := Lib.hid (hV ▸ HFM'.out.alloc _)
      have HBVV := Lib.hid (HBV.out.trans (hbV.mono hBr))
      have HKVV := Lib.hid (HKV'.out.trans (MK.below hbV))
      have HKI := Lib.hid ((hkI.under HR.out HBW0.out).under HR.out HBVV.out)
      have hBV := Nat.le_trans hBr hbV.size
      rw [← hgv] at pv
      have HFK := Lib.hid hfk
      have HBS := Lib.hid hbs
      have HFS := Lib.hid hfs
      have HCE := Lib.hid (ih k V R _ B bm fm _ _ D E γ (fun x => φ x || T.fvs (t.ks.take i) γ x) hfk.1 (by omega) HKI.out HR.out hBbm hBfm hne hBV HB2.out HF2.out HC'.out HF'.out (fun x => ⟨(hfk.2 x).1, (hfk.2 x).2⟩) (by omega) (by omega))
      have hi0 : (0 : Int) ≤ i := by omega
      have hi1 : (i : Int) < n3 := by omega
      clear hbV h6 h61 hkI hfk hk hI hbs hfs hbin HBM' HFM' HC' HF' hRk HKV' hBr hBV
      go_upto_region 13 with (fail)
      rw [← hV, ← hgv]
      clear e0 e1 e2 e3 e4 e5 hV hgv
      obtain ⟨x0, x1, x2, x3, x4, x5⟩ := pv.six
      go_wp2_with (go_at_call 60; refine HCE.out.mono ?_; rintro e w5 ⟨rfl, D5, E5, hB5, hF5, hC5, hFd5, hbl5, hk5⟩)
      go_roundg (n3 - i)
      case measure => omega
      case rel => exact ⟨i + 1, D5, E5, by omega, by omega, by go_num, Lib.hid (by rw [HBS.out, Nat.mul_add, ← Nat.add_assoc]; exact hB5), Lib.hid (by rw [HBS.out, ← Nat.add_assoc]; exact hF5), Lib.hid hC5, Lib.hid (fun x => by rw [hFd5 x]; dsimp only; rw [HFS.out x, Bool.or_assoc]), HBVV.out.trans hbl5, Lib.hid (HKVV.out.trans hk5)⟩
     ·
      have hfx : t.ks.take i = t.ks := by rw [List.take_of_length_le (by rw [HN3.out]; omega)]
      rw [hfx] at HBM' HFM' HF'
      clear hfx
      obtain rfl : n3 = i := by omega
      have HFE := HF'
      have ps3 := HKV'.out.blk ps hgb hgf
      obtain ⟨x0, x1, x2, x3, x4, x5⟩ := ps3.six
      have HBM := HBM'
      have HFM := HFM'
      have HC := HC'
      have HKV := HKV'
      clear HBM' HFM' HC' HF' HKV' hBr
      go_wp2_with fail
      go_loopg [64] (n1 + 1) (fun gk vv wr => ∃ (i : Nat) (D' : DU), gk + i = n1 + 1 ∧ i ≤ n1 ∧ vv = .int .i64 (i : Nat) ∧ Hid (BM wr bm ((n + n1 + 2 * T.bulks t.ks) + i) D') ∧ Hid (FM wr fm (m + T.bulks t.ks) E) ∧ Hid (Cnt D' (fun y => γ y - cntL (t.ns.take i) y)) ∧ Below B W wr ∧ Hid (MK bm fm W wr))
      case atStart => exact ⟨0, D, by omega, Nat.zero_le _, rfl, HBM, HFM, Lib.hid (fun x => by rw [HC.out x]; simp [cntL_nil]), HBV.out, HKV⟩
      case round =>
       obtain ⟨i, D, hi, hin, rfl, HBM', HFM', HC', hbv, HKV'⟩ := hrel
       clear HBM HFM HC HKV HBV
       have HBV := Lib.hid hbv
       have hBr := Nat.le_trans hBW hbv.size
       clear hbv
       by_cases hlt : i < n1
       ·
        have hl0 : 0 < n1 := by omega
        obtain ⟨nbk, no, rfl, hRn, hnc⟩ := HST.out.2 (by rw [HN1.out]; exact hl0)
        have hcell := hnc i (by rw [HN1.out]; exact hlt)
        have hsz := sbulk_get t.ns i (by rw [HN1.out]; exact hlt)
        have hsn := fun x => cntL_snoc (t.ns.take i) (t.ns.getD i ⟨#[]⟩) x
        rw [← take_snoc _ (⟨#[]⟩ : ByteArray) _ (by rw [HN1.out]; exact hlt)] at hsn
        obtain ⟨s, hs⟩ : ∃ s, t.ns.getD i ⟨#[]⟩ = s := ⟨_, rfl⟩
        rw [hs] at hcell hsz hsn
        have e0 := (HBV.out.cell (by exact HR.out nbk hRn)).trans hcell
        have hsm : s.size ≤ maxLen := by unfold maxLen; omega
        have HSN := Lib.hid hsn
        have HCB := Lib.hid (cntL_nonneg (t.ns.take i) s.data.toList)
        have HCT := Lib.hid (cntL_take t.ns i s.data.toList)
        have HCL := Lib.hid (cntL_le t.ns s.data.toList)
        have hi0 : (0 : Int) ≤ i := by omega
        have hi1 : (i : Int) < n1 := by omega
        clear hcell hnc hsn hs hRn hsz
        go_wp2_with (first
         | (at_lookup; refine wpList_lookup_own_int _ rfl _ _ 91 rfl 9 3 .i64 lawS Tryz.underlying91 Tryz.underlying3 (zeroI _) bm _ _ rfl HBM'.out _ _ rfl (keyOf_string_mk Tryz.underlying9 hsm) ?_; intro c hat _; have hcc : c = γ s.data.toList - cntL (t.ns.take i) s.data.toList := HC'.out.at hat; have hc1 : 0 ≤ c := (by have h1 := (HGN.out s.data.toList).1; have h2 := HCB.out; have h3 := HCT.out; have h4 := HCL.out; have h5 := HN1.out; omega); have hc2 : c ≤ 8388608 := (by have h1 := (HGN.out s.data.toList).2; have h2 := HCB.out; have h3 := HCT.out; have h4 := HCL.out; have h5 := HN1.out; omega); have HCC := Lib.hid hcc; clear hcc hat)
         | (at_mapUpdate; refine wpList_mapUpdate_own _ rfl _ _ _ 91 rfl 9 3 lawS Tryz.underlying91 _ bm ((n + n1 + 2 * T.bulks t.ks) + i) _ rfl HBM'.out (by unfold maxLen; omega) _ _ _ rfl rfl (keyOf_string_mk Tryz.underlying9 hsm) _ [] (plainElem_int Tryz.underlying3 (WalkArith.wf_i64 (by omega))) ?_; intro w1 hown1 hgr1))
        have hbv1 := below_map HBV.out hgr1 hBbm hBr
        have hval : (fun y => γ y - cntL (t.ns.take (i + 1)) y) s.data.toList = c - 1 := by
         dsimp only
         rw [HSN.out, if_pos rfl, HCC.out]
         omega
        have hput : Cnt (D.put (.string s.data.toList) (.lit (.int .i64 (c - 1)))) (fun y => γ y - cntL (t.ns.take (i + 1)) y) := by
         rw [← hval]
         exact Cnt.put (β' := fun y => γ y - cntL (t.ns.take (i + 1)) y) HC'.out HBM'.out.isMap hsm (fun x hx => by rw [HSN.out, if_neg hx, Int.add_zero])
        have HP := Lib.hid hput
        have HO := Lib.hid hown1
        have hfm1 : Hid (FM w1 fm (m + T.bulks t.ks) E) := Lib.hid (HFM'.out.kept hgr1 (by simp; omega))
        have hk1 : Hid (MK bm fm W w1) := Lib.hid (HKV'.out.trans (MK.grown hgr1 (.inl rfl)))
        clear hput hown1 hgr1 hval
        go_roundg (n1 - i)
        case measure => omega
        case rel => exact ⟨i + 1, _, by omega, by omega, by go_num, HO, hfm1, HP, hbv1, hk1⟩
       · have hfx : t.ns.take i = t.ns := by rw [List.take_of_length_le (by rw [HN1.out]; omega)]
         rw [hfx] at HC'
         clear hfx
         obtain rfl : n1 = i := by omega
         go_wp2_with fail
         go_end0
         refine ⟨rfl, D, E, HBM'.out.mono (by omega), HFM'.out.mono (by omega), fun x => ?_, fun x => by rw [HFE.out x]; dsimp only; rw [HFQ.out x], HBW0.out.trans HBV.out, HK0.out.trans HKV'.out⟩
         rw [HC'.out x, HGA.out]
         dsimp only
         rw [Int.add_sub_cancel]
end
section
open Go.RowKit
open Go.Shelf Go.Maps Go.Sort Go.WideMaps
set_option maxRecDepth 100000 in
set_option maxHeartbeats 4000000 in
theorem free_bind22 (N : Nat) (hN2 : N + 1 ≤ 1048576) (ih : FreeW N) (t : T) (h2 : t.k = 22) (w : World) (R : Nat → Prop) (v : Value) (B bm fm n m : Nat) (Db Df : DU) (β : List UInt8 → Int) (φ : List UInt8 → Bool) (hN : t.bulk ≤ N + 1) (h : T.In w R t v) (hR : ∀ g, R g → g < B) (hBbm : B ≤ bm) (hBfm : B ≤ fm) (hne : bm ≠ fm) (hBw : B ≤ w.heap.size)
    (hbm : BM w bm n Db) (hfm : FM w fm m Df) (hct : Cnt Db β) (hfd : Fnd Df φ) (hbd : ∀ x, 0 ≤ β x ∧ β x + t.bulk ≤ 4194304) (hn : n + 2 * t.bulk ≤ 1099511627776) (hm : m + t.bulk ≤ 1099511627776) :
    Calls Tryz.prog 60 #[v, .map (some bm), .map (some fm)] w fun e w' => e = .returned (.tuple #[]) ∧ ∃ (D E : DU), BM w' bm (n + 2 * t.bulk) D ∧ FM w' fm (m + t.bulk) E ∧ Cnt D β ∧ Fnd E (fun x => φ x || t.fv β x) ∧ Below B w w' ∧ MK bm fm w w' := by
  obtain ⟨A1, c1, A2, c2, A3, c3, rfl, hst, -, -, hkd⟩ := in_formR h
  obtain ⟨hl1, hl2, _, _, hl5⟩ := T.len_le hN
  have hbulk : sbulk t.ns + t.mg.length + t.nm.size + T.bulks t.ks + 1 = t.bulk := by
   cases t
   simp only [T.bulk, T.ns, T.mg, T.nm, T.ks]
   omega
  have hsbl := sbulk_len t.ns
  have hfv := fun x => T.fv_eq t β x
  obtain ⟨nm, hnm⟩ : ∃ x, t.nm = x := ⟨_, rfl⟩
  obtain ⟨ng, hng⟩ : ∃ x, t.ng = x := ⟨_, rfl⟩
  obtain ⟨n1, hn1⟩ : ∃ x, t.ns.length = x := ⟨_, rfl⟩
  obtain ⟨n2, hn2⟩ : ∃ x, t.mg.length = x := ⟨_, rfl⟩
  obtain ⟨n3, hn3⟩ : ∃ x, t.ks.length = x := ⟨_, rfl⟩
  obtain ⟨kk, hkk⟩ : ∃ x, t.k = x := ⟨_, rfl⟩
  rw [hkk] at h2 hfv
  rw [hnm] at hl1 hfv
  rw [hn3] at hkd hl5
  rw [hn1] at hsbl hl2
  rw [hkk, hnm, hng, hn1, hn2, hn3]
  obtain ⟨W, hW, ps, hbW⟩ := made_blk w #[.int .i64 kk, .string nm, .slice A1 n1 c1, .bool ng, .slice A2 n2 c2, .slice A3 n3 c3] 28
  obtain ⟨g, hg⟩ : ∃ g, g = w.heap.size := ⟨_, rfl⟩
  have hgb : g ≠ bm := by have := hbm.lt; omega
  have hgf : g ≠ fm := by have := hfm.lt; omega
  have HBM : Hid (BM W bm n Db) := Lib.hid (hW ▸ hbm.alloc _)
  have HFM : Hid (FM W fm m Df) := Lib.hid (hW ▸ hfm.alloc _)
  have HBW0 := Lib.hid (hbW.mono hBw)
  have HK0 : Hid (MK bm fm w W) := Lib.hid (MK.below hbW)
  have hBW := Nat.le_trans hBw hbW.size
  have HST := Lib.hid (hst.keep (fun p v hp hc => (HBW0.out.cell (hR _ hp)).trans hc) (fun _ h => h))
  rw [← hg] at ps
  have HR := Lib.hid hR
  have HKD := Lib.hid hkd
  have HN1 := Lib.hid hn1
  have HN3 := Lib.hid hn3
  have HNM := Lib.hid hnm
  have HFV := Lib.hid hfv
  have HC := Lib.hid hct
  have HF := Lib.hid hfd
  have HBD := Lib.hid hbd
  have hnmx : nm.size ≤ maxLen := by unfold maxLen; omega
  clear h hR hkd hn1 hn2 hn3 hnm hng hst hbW hBw hbm hfm hct hfd hbd hfv
  subst h2
  obtain ⟨γ, hγ⟩ : ∃ γ : List UInt8 → Int, γ = fun y => β y + cntL t.ns y := ⟨_, rfl⟩
  have HGA := Lib.hid hγ
  have HFQ : Hid (∀ x, t.fv β x = T.fvs t.ks γ x) := Lib.hid (fun x => by rw [HFV.out x, HGA.out]; unfold bnd; rw [if_pos (by decide)]; rfl)
  have HGM : Hid (∀ x, 0 ≤ γ x ∧ γ x + T.bulks t.ks ≤ 4194304) := Lib.hid (fun x => by
   rw [HGA.out]
   have h1 := HBD.out x
   have h2 := cntL_nonneg t.ns x
   have h3 := cntL_le t.ns x
   have h4 := HN1.out
   dsimp only
   omega)
  have HGN : Hid (∀ x, cntL t.ns x ≤ γ x ∧ γ x ≤ 4194304) := Lib.hid (fun x => by
   have h2 := (HGM.out x).2
   have h1 := HBD.out x
   refine ⟨?_, by omega⟩
   rw [HGA.out]
   dsimp only
   omega)
  clear hγ
  have HBV := Lib.hid (Below.refl B W)
  have HKV : Hid (MK bm fm W W) := Lib.hid (MK.refl W)
  have hbi := ih
  have HBK : Hid (∀ i, i < t.ks.length → (t.ks.getD i t0).bulk ≤ N ∧ ∀ x, 0 ≤ γ x ∧ γ x + (t.ks.getD i t0).bulk ≤ 4194304) := Lib.hid (fun i hi => ⟨T.kid_bulk hN hi, fun x => ⟨(HGM.out x).1, by have h1 := (HGM.out x).2; have h2 := T.bulk_kid t.ks i hi; omega⟩⟩)
  go_enter Tryz.func60, Tryz.ntmps60
  go_upto_region 1 with (fail)
  rw [← hW, ← hg]
  clear hW hg
  obtain ⟨x0, x1, x2, x3, x4, x5⟩ := ps.six
  go_wp2_with fail
  go_loopg [39] (n1 + 1) (fun gk vv wr => ∃ (i : Nat) (D : DU), gk + i = n1 + 1 ∧ i ≤ n1 ∧ vv = .int .i64 (i : Nat) ∧ Hid (BM wr bm (n + i) D) ∧ Hid (FM wr fm m Df) ∧ Hid (Cnt D (fun y => β y + cntL (t.ns.take i) y)) ∧ Below B W wr ∧ Hid (MK bm fm W wr))
  case atStart => exact ⟨0, Db, by omega, Nat.zero_le _, rfl, HBM, HFM, Lib.hid (fun x => by rw [HC.out x]; simp [cntL_nil]), HBV.out, HKV⟩
  case round =>
   obtain ⟨i, D, hi, hin, rfl, HBM', HFM', HC', hbv, HKV'⟩ := hrel
   clear HBM HFM HC HKV HBV
   have HBV := Lib.hid hbv
   have hBr := Nat.le_trans hBW hbv.size
   clear hbv
   by_cases hlt : i < n1
   ·
    have hl0 : 0 < n1 := by omega
    obtain ⟨nbk, no, rfl, hRn, hnc⟩ := HST.out.2 (by rw [HN1.out]; exact hl0)
    have hcell := hnc i (by rw [HN1.out]; exact hlt)
    have hsz := sbulk_get t.ns i (by rw [HN1.out]; exact hlt)
    have hsn := fun x => cntL_snoc (t.ns.take i) (t.ns.getD i ⟨#[]⟩) x
    rw [← take_snoc _ (⟨#[]⟩ : ByteArray) _ (by rw [HN1.out]; exact hlt)] at hsn
    obtain ⟨s, hs⟩ : ∃ s, t.ns.getD i ⟨#[]⟩ = s := ⟨_, rfl⟩
    rw [hs] at hcell hsz hsn
    have e0 := (HBV.out.cell (by exact HR.out nbk hRn)).trans hcell
    have hsm : s.size ≤ maxLen := by unfold maxLen; omega
    have HSN := Lib.hid hsn
    have HCB := Lib.hid (cntL_nonneg (t.ns.take i) s.data.toList)
    have HCT := Lib.hid (cntL_take t.ns i s.data.toList)
    have HCL := Lib.hid (cntL_le t.ns s.data.toList)
    have hi0 : (0 : Int) ≤ i := by omega
    have hi1 : (i : Int) < n1 := by omega
    clear hcell hnc hsn hs hRn hsz
    go_wp2_with (first
     | (at_lookup; refine wpList_lookup_own_int _ rfl _ _ 91 rfl 9 3 .i64 lawS Tryz.underlying91 Tryz.underlying3 (zeroI _) bm _ _ rfl HBM'.out _ _ rfl (keyOf_string_mk Tryz.underlying9 hsm) ?_; intro c hat _; have hcc : c = β s.data.toList + cntL (t.ns.take i) s.data.toList := HC'.out.at hat; have hc1 : 0 ≤ c := (by have h1 := (HBD.out s.data.toList).1; have h2 := HCB.out; have h3 := HCT.out; have h4 := HCL.out; have h5 := HN1.out; omega); have hc2 : c ≤ 8388608 := (by have h1 := (HBD.out s.data.toList).2; have h2 := HCB.out; have h3 := HCT.out; have h4 := HCL.out; have h5 := HN1.out; omega); have HCC := Lib.hid hcc; clear hcc hat)
     | (at_mapUpdate; refine wpList_mapUpdate_own _ rfl _ _ _ 91 rfl 9 3 lawS Tryz.underlying91 _ bm (n + i) _ rfl HBM'.out (by unfold maxLen; omega) _ _ _ rfl rfl (keyOf_string_mk Tryz.underlying9 hsm) _ [] (plainElem_int Tryz.underlying3 (WalkArith.wf_i64 (by omega))) ?_; intro w1 hown1 hgr1))
    have hbv1 := below_map HBV.out hgr1 hBbm hBr
    have hval : (fun y => β y + cntL (t.ns.take (i + 1)) y) s.data.toList = c + 1 := by
     dsimp only
     rw [HSN.out, if_pos rfl, HCC.out]
     omega
    have hput : Cnt (D.put (.string s.data.toList) (.lit (.int .i64 (c + 1)))) (fun y => β y + cntL (t.ns.take (i + 1)) y) := by
     rw [← hval]
     exact Cnt.put (β' := fun y => β y + cntL (t.ns.take (i + 1)) y) HC'.out HBM'.out.isMap hsm (fun x hx => by rw [HSN.out, if_neg hx, Int.add_zero])
    have HP := Lib.hid hput
    have HO := Lib.hid hown1
    have hfm1 : Hid (FM w1 fm m Df) := Lib.hid (HFM'.out.kept hgr1 (by simp; omega))
    have hk1 : Hid (MK bm fm W w1) := Lib.hid (HKV'.out.trans (MK.grown hgr1 (.inl rfl)))
    clear hput hown1 hgr1 hval
    go_roundg (n1 - i)
    case measure => omega
    case rel => exact ⟨i + 1, _, by omega, by omega, by go_num, HO, hfm1, HP, hbv1, hk1⟩
   ·
    have hfx : t.ns.take i = t.ns := by rw [List.take_of_length_le (by rw [HN1.out]; omega)]
    rw [hfx] at HC'
    clear hfx
    obtain rfl : n1 = i := by omega
    have ps2 := HKV'.out.blk ps hgb hgf
    clear x0 x1 x2 x3 x4 x5
    obtain ⟨x0, x1, x2, x3, x4, x5⟩ := ps2.six
    have HBM := HBM'
    have HFM := HFM'
    have HC : Hid (Cnt D γ) := Lib.hid (by rw [HGA.out]; exact HC'.out)
    have HKV := HKV'
    clear HBM' HFM' HC' HKV' hBr
    go_wp2_with fail
    go_loopg [51] (n3 + 1) (fun gk v51 wr => ∃ (i : Nat) (D E : DU), gk + i = n3 + 1 ∧ i ≤ n3 ∧ v51 = .int .i64 (i : Nat) ∧ Hid (BM wr bm ((n + n1) + 2 * T.bulks (t.ks.take i)) D) ∧ Hid (FM wr fm (m + T.bulks (t.ks.take i)) E) ∧ Hid (Cnt D γ) ∧ Hid (Fnd E (fun x => φ x || T.fvs (t.ks.take i) γ x)) ∧ Below B W wr ∧ Hid (MK bm fm W wr))
    case atStart => exact ⟨0, D, Df, by omega, Nat.zero_le _, rfl, Lib.hid (by simpa [T.bulks] using HBM.out), Lib.hid (by simpa [T.bulks] using HFM.out), HC, Lib.hid (fun x => by rw [HF.out x]; simp [T.fvs]), HBV.out, HKV⟩
    case round =>
     obtain ⟨i, D, E, hi, hin, rfl, HBM', HFM', HC', HF', hbv, HKV'⟩ := hrel
     clear HBM HFM HC HF HKV HBV
     have HBV := Lib.hid hbv
     have hBr := Nat.le_trans hBW hbv.size
     clear hbv
     by_cases hlt : i < n3
     ·
      have hl0 : 0 < n3 := by omega
      obtain ⟨kb, ko, rfl, hRk, hI⟩ := HKD.out hl0
      have hkB := HR.out kb hRk
      obtain ⟨v0, v1, v2, v3, v4, v5, h6, hkI⟩ := T.Ins.get _ _ _ hI (by rw [HN3.out]; exact hlt)
      have hfk := HBK.out i (by rw [HN3.out]; exact hlt)
      have hbin := T.bulks_in t.ks i (by rw [HN3.out]; exact hlt)
      have hbs := T.bulks_snoc (t.ks.take i) (t.ks.getD i t0)
      have hfs := fun x => T.fvs_snoc γ x (t.ks.take i) (t.ks.getD i t0)
      rw [← take_snoc _ t0 _ (by rw [HN3.out]; exact hlt)] at hbs hfs
      obtain ⟨k, hk⟩ : ∃ k, t.ks.getD i t0 = k := ⟨_, rfl⟩
      rw [hk] at hkI hfk hbin hbs hfs
      obtain ⟨B1, d1, q1, B2, d2, q2, B3, d3, q3, kkk, nmk, ngk, rfl, rfl, rfl, rfl, rfl, rfl⟩ := kid_form hkI
      have h61 := h6.keep (fun p v hp hc => (HBW0.out.cell (by rw [hp]; exact hkB)).trans hc)
      obtain ⟨e0, e1, e2, e3, e4, e5⟩ := h61.keep (fun p v hp hc => (HBV.out.cell (by rw [hp]; exact hkB)).trans hc)
      obtain ⟨V, hV, pv, hbV⟩ := made_blk wr #[.int .i64 kkk, .string nmk, .slice B1 q1 d1, .bool ngk, .slice B2 q2 d2, .slice B3 q3 d3] 28
      obtain ⟨gv, hgv⟩ : ∃ g, g = wr.heap.size := ⟨_, rfl⟩
      have HB2 : Hid (BM V bm ((n + n1) + 2 * T.bulks (t.ks.take i)) D) := Lib.hid (hV ▸ HBM'.out.alloc _)
      have HF2 : Hid (FM V fm (m + T.bulks (t.ks.take i)) E) := Lib.hid (hV ▸ HFM'.out.alloc _)
      have HBVV := Lib.hid (HBV.out.trans (hbV.mono hBr))
      have HKVV := Lib.hid (HKV'.out.trans (MK.below hbV))
      have HKI := Lib.hid ((hkI.under HR.out HBW0.out).under HR.out HBVV.out)
      have hBV := Nat.le_trans hBr hbV.size
      rw [← hgv] at pv
      have HFK := Lib.hid hfk
      have HBS := Lib.hid hbs
      have HFS := Lib.hid hfs
      have HCE := Lib.hid (ih k V R _ B bm fm _ _ D E γ (fun x => φ x || T.fvs (t.ks.take i) γ x) hfk.1 (by omega) HKI.out HR.out hBbm hBfm hne hBV HB2.out HF2.out HC'.out HF'.out (fun x => ⟨(hfk.2 x).1, (hfk.2 x).2⟩) (by omega) (by omega))
      have hi0 : (0 : Int) ≤ i := by omega
      have hi1 : (i : Int) < n3 := by omega
      clear hbV h6 h61 hkI hfk hk hI hbs hfs hbin HBM' HFM' HC' HF' hRk HKV' hBr hBV
      go_upto_region 13 with (fail)
      rw [← hV, ← hgv]
      clear e0 e1 e2 e3 e4 e5 hV hgv
      obtain ⟨x0, x1, x2, x3, x4, x5⟩ := pv.six
      go_wp2_with (go_at_call 60; refine HCE.out.mono ?_; rintro e w5 ⟨rfl, D5, E5, hB5, hF5, hC5, hFd5, hbl5, hk5⟩)
      go_roundg (n3 - i)
      case measure => omega
      case rel => exact ⟨i + 1, D5, E5, by omega, by omega, by go_num, Lib.hid (by rw [HBS.out, Nat.mul_add, ← Nat.add_assoc]; exact hB5), Lib.hid (by rw [HBS.out, ← Nat.add_assoc]; exact hF5), Lib.hid hC5, Lib.hid (fun x => by rw [hFd5 x]; dsimp only; rw [HFS.out x, Bool.or_assoc]), HBVV.out.trans hbl5, Lib.hid (HKVV.out.trans hk5)⟩
     ·
      have hfx : t.ks.take i = t.ks := by rw [List.take_of_length_le (by rw [HN3.out]; omega)]
      rw [hfx] at HBM' HFM' HF'
      clear hfx
      obtain rfl : n3 = i := by omega
      have HFE := HF'
      have ps3 := HKV'.out.blk ps hgb hgf
      obtain ⟨x0, x1, x2, x3, x4, x5⟩ := ps3.six
      have HBM := HBM'
      have HFM := HFM'
      have HC := HC'
      have HKV := HKV'
      clear HBM' HFM' HC' HF' HKV' hBr
      go_wp2_with fail
      go_loopg [64] (n1 + 1) (fun gk vv wr => ∃ (i : Nat) (D' : DU), gk + i = n1 + 1 ∧ i ≤ n1 ∧ vv = .int .i64 (i : Nat) ∧ Hid (BM wr bm ((n + n1 + 2 * T.bulks t.ks) + i) D') ∧ Hid (FM wr fm (m + T.bulks t.ks) E) ∧ Hid (Cnt D' (fun y => γ y - cntL (t.ns.take i) y)) ∧ Below B W wr ∧ Hid (MK bm fm W wr))
      case atStart => exact ⟨0, D, by omega, Nat.zero_le _, rfl, HBM, HFM, Lib.hid (fun x => by rw [HC.out x]; simp [cntL_nil]), HBV.out, HKV⟩
      case round =>
       obtain ⟨i, D, hi, hin, rfl, HBM', HFM', HC', hbv, HKV'⟩ := hrel
       clear HBM HFM HC HKV HBV
       have HBV := Lib.hid hbv
       have hBr := Nat.le_trans hBW hbv.size
       clear hbv
       by_cases hlt : i < n1
       ·
        have hl0 : 0 < n1 := by omega
        obtain ⟨nbk, no, rfl, hRn, hnc⟩ := HST.out.2 (by rw [HN1.out]; exact hl0)
        have hcell := hnc i (by rw [HN1.out]; exact hlt)
        have hsz := sbulk_get t.ns i (by rw [HN1.out]; exact hlt)
        have hsn := fun x => cntL_snoc (t.ns.take i) (t.ns.getD i ⟨#[]⟩) x
        rw [← take_snoc _ (⟨#[]⟩ : ByteArray) _ (by rw [HN1.out]; exact hlt)] at hsn
        obtain ⟨s, hs⟩ : ∃ s, t.ns.getD i ⟨#[]⟩ = s := ⟨_, rfl⟩
        rw [hs] at hcell hsz hsn
        have e0 := (HBV.out.cell (by exact HR.out nbk hRn)).trans hcell
        have hsm : s.size ≤ maxLen := by unfold maxLen; omega
        have HSN := Lib.hid hsn
        have HCB := Lib.hid (cntL_nonneg (t.ns.take i) s.data.toList)
        have HCT := Lib.hid (cntL_take t.ns i s.data.toList)
        have HCL := Lib.hid (cntL_le t.ns s.data.toList)
        have hi0 : (0 : Int) ≤ i := by omega
        have hi1 : (i : Int) < n1 := by omega
        clear hcell hnc hsn hs hRn hsz
        go_wp2_with (first
         | (at_lookup; refine wpList_lookup_own_int _ rfl _ _ 91 rfl 9 3 .i64 lawS Tryz.underlying91 Tryz.underlying3 (zeroI _) bm _ _ rfl HBM'.out _ _ rfl (keyOf_string_mk Tryz.underlying9 hsm) ?_; intro c hat _; have hcc : c = γ s.data.toList - cntL (t.ns.take i) s.data.toList := HC'.out.at hat; have hc1 : 0 ≤ c := (by have h1 := (HGN.out s.data.toList).1; have h2 := HCB.out; have h3 := HCT.out; have h4 := HCL.out; have h5 := HN1.out; omega); have hc2 : c ≤ 8388608 := (by have h1 := (HGN.out s.data.toList).2; have h2 := HCB.out; have h3 := HCT.out; have h4 := HCL.out; have h5 := HN1.out; omega); have HCC := Lib.hid hcc; clear hcc hat)
         | (at_mapUpdate; refine wpList_mapUpdate_own _ rfl _ _ _ 91 rfl 9 3 lawS Tryz.underlying91 _ bm ((n + n1 + 2 * T.bulks t.ks) + i) _ rfl HBM'.out (by unfold maxLen; omega) _ _ _ rfl rfl (keyOf_string_mk Tryz.underlying9 hsm) _ [] (plainElem_int Tryz.underlying3 (WalkArith.wf_i64 (by omega))) ?_; intro w1 hown1 hgr1))
        have hbv1 := below_map HBV.out hgr1 hBbm hBr
        have hval : (fun y => γ y - cntL (t.ns.take (i + 1)) y) s.data.toList = c - 1 := by
         dsimp only
         rw [HSN.out, if_pos rfl, HCC.out]
         omega
        have hput : Cnt (D.put (.string s.data.toList) (.lit (.int .i64 (c - 1)))) (fun y => γ y - cntL (t.ns.take (i + 1)) y) := by
         rw [← hval]
         exact Cnt.put (β' := fun y => γ y - cntL (t.ns.take (i + 1)) y) HC'.out HBM'.out.isMap hsm (fun x hx => by rw [HSN.out, if_neg hx, Int.add_zero])
        have HP := Lib.hid hput
        have HO := Lib.hid hown1
        have hfm1 : Hid (FM w1 fm (m + T.bulks t.ks) E) := Lib.hid (HFM'.out.kept hgr1 (by simp; omega))
        have hk1 : Hid (MK bm fm W w1) := Lib.hid (HKV'.out.trans (MK.grown hgr1 (.inl rfl)))
        clear hput hown1 hgr1 hval
        go_roundg (n1 - i)
        case measure => omega
        case rel => exact ⟨i + 1, _, by omega, by omega, by go_num, HO, hfm1, HP, hbv1, hk1⟩
       · have hfx : t.ns.take i = t.ns := by rw [List.take_of_length_le (by rw [HN1.out]; omega)]
         rw [hfx] at HC'
         clear hfx
         obtain rfl : n1 = i := by omega
         go_wp2_with fail
         go_end0
         refine ⟨rfl, D, E, HBM'.out.mono (by omega), HFM'.out.mono (by omega), fun x => ?_, fun x => by rw [HFE.out x]; dsimp only; rw [HFQ.out x], HBW0.out.trans HBV.out, HK0.out.trans HKV'.out⟩
         rw [HC'.out x, HGA.out]
         dsimp only
         rw [Int.add_sub_cancel]
end
end Go.Proofs.YthiadenmljbdaaaGreatDoor

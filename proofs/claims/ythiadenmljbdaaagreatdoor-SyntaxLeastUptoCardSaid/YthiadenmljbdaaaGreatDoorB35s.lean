/-
  s: the parts WFreeB WFreeC WFreeT of the proof.
-/
import Derived.Test.YthiadenmljbdaaaGreatDoorB34s
import Derived.Test.YthiadenmljbdaaaGreatDoorB22s
import Derived.Test.YthiadenmljbdaaaGreatDoorB33s
import Derived.Maps.RangeWalk
import Derived.Sort.OwnSorted
section
namespace Go.Proofs.YthiadenmljbdaaaGreatDoor
open Go.RowKit
open Go.Shelf Go.Maps Go.Sort Go.WideMaps
theorem cntL_take (ns : List ByteArray) (i : Nat) (x : List UInt8) : cntL (ns.take i) x ≤ cntL ns x := by
  unfold cntL
  have := ((List.take_sublist i ns).filter (fun s : ByteArray => decide (s.data.toList = x))).length_le
  omega
set_option maxRecDepth 100000 in
set_option maxHeartbeats 4000000 in
theorem free_bind21 (N : Nat) (hN2 : N + 1 ≤ 1048576) (ih : FreeW N) (t : T) (h2 : t.k = 21) (w : World) (R : Nat → Prop) (v : Value) (B bm fm n m : Nat) (Db Df : DU) (β : List UInt8 → Int) (φ : List UInt8 → Bool) (hN : t.bulk ≤ N + 1) (h : T.In w R t v) (hR : ∀ g, R g → g < B) (hBbm : B ≤ bm) (hBfm : B ≤ fm) (hne : bm ≠ fm) (hBw : B ≤ w.heap.size)
    (hbm : BM w bm n Db) (hfm : FM w fm m Df) (hct : Cnt Db β) (hfd : Fnd Df φ) (hbd : ∀ x, 0 ≤ β x ∧ β x + t.bulk ≤ 4194304) (hn : n + 2 * t.bulk ≤ 1099511627776) (hm : m + t.bulk ≤ 1099511627776) :
    Calls Tryz.prog 60 #[v, .map (some bm), .map (some fm)] w fun e w' => e = .returned (.tuple #[]) ∧ ∃ (D E : DU), BM w' bm (n + 2 * t.bulk) D ∧ FM w' fm (m + t.bulk) E ∧ Cnt D β ∧ Fnd E (fun x => φ x || t.fv β x) ∧ Below B w w' ∧ MK bm fm w w' := by
  obtain ⟨A1, c1, A2, c2, A3, c3, rfl, hst, -, -, hkd⟩ := in_formR h
  obtain ⟨hl1, hl2, _, _, hl5⟩ := T.len_le hN
  have hbulk : sbulk t.ns + t.mg.length + t.nm.size + T.bulks t.ks + 1 = t.bulk := by
    cases t
    simp only [T.bulk, T.ns, T.mg, T.nm, T.ks]
    omega
  have hsbl := sbulk_len t.ns
  have hfv := fun x => T.fv_eq t β x
  obtain ⟨nm, hnm⟩ : ∃ x, t.nm = x := ⟨_, rfl⟩
  obtain ⟨ng, hng⟩ : ∃ x, t.ng = x := ⟨_, rfl⟩
  obtain ⟨n1, hn1⟩ : ∃ x, t.ns.length = x := ⟨_, rfl⟩
  obtain ⟨n2, hn2⟩ : ∃ x, t.mg.length = x := ⟨_, rfl⟩
  obtain ⟨n3, hn3⟩ : ∃ x, t.ks.length = x := ⟨_, rfl⟩
  obtain ⟨kk, hkk⟩ : ∃ x, t.k = x := ⟨_, rfl⟩
  rw [hkk] at h2 hfv
  rw [hnm] at hl1 hfv
  rw [hn3] at hkd hl5
  rw [hn1] at hsbl hl2
  rw [hkk, hnm, hng, hn1, hn2, hn3]
  obtain ⟨W, hW, ps, hbW⟩ := made_blk w #[.int .i64 kk, .string nm, .slice A1 n1 c1, .bool ng, .slice A2 n2 c2, .slice A3 n3 c3] 28
  obtain ⟨g, hg⟩ : ∃ g, g = w.heap.size := ⟨_, rfl⟩
  have hgb : g ≠ bm := by have := hbm.lt; omega
  have hgf : g ≠ fm := by have := hfm.lt; omega
  have HBM : Hid (BM W bm n Db) := Lib.hid (hW ▸ hbm.alloc _)
  have HFM : Hid (FM W fm m Df) := Lib.hid (hW ▸ hfm.alloc _)
  have HBW0 := Lib.hid (hbW.mono hBw)
  have HK0 : Hid (MK bm fm w W) := Lib.hid (MK.below hbW)
  have hBW := Nat.le_trans hBw hbW.size
  have HST := Lib.hid (hst.keep (fun p v hp hc => (HBW0.out.cell (hR _ hp)).trans hc) (fun _ h => h))
  rw [← hg] at ps
  have HR := Lib.hid hR
  have HKD := Lib.hid hkd
  have HN1 := Lib.hid hn1
  have HN3 := Lib.hid hn3
  have HNM := Lib.hid hnm
  have HFV := Lib.hid hfv
  have HC := Lib.hid hct
  have HF := Lib.hid hfd
  have HBD := Lib.hid hbd
  have hnmx : nm.size ≤ maxLen := by unfold maxLen; omega
  clear h hR hkd hn1 hn2 hn3 hnm hng hst hbW hBw hbm hfm hct hfd hbd hfv
  subst h2
  obtain ⟨γ, hγ⟩ : ∃ γ : List UInt8 → Int, γ = fun y => β y + cntL t.ns y := ⟨_, rfl⟩
  have HGA := Lib.hid hγ
  have HFQ : Hid (∀ x, t.fv β x = T.fvs t.ks γ x) := Lib.hid (fun x => by rw [HFV.out x, HGA.out]; unfold bnd; rw [if_pos (by decide)]; rfl)
  have HGM : Hid (∀ x, 0 ≤ γ x ∧ γ x + T.bulks t.ks ≤ 4194304) := Lib.hid (fun x => by
    rw [HGA.out]
    have h1 := HBD.out x
    have h2 := cntL_nonneg t.ns x
    have h3 := cntL_le t.ns x
    have h4 := HN1.out
    dsimp only
    omega)
  have HGN : Hid (∀ x, cntL t.ns x ≤ γ x ∧ γ x ≤ 4194304) := Lib.hid (fun x => by
    have h2 := (HGM.out x).2
    have h1 := HBD.out x
    refine ⟨?_, by omega⟩
    rw [HGA.out]
    dsimp only
    omega)
  clear hγ
  have HBV := Lib.hid (Below.refl B W)
  have HKV : Hid (MK bm fm W W) := Lib.hid (MK.refl W)
  have hbi := ih
  have HBK : Hid (∀ i, i < t.ks.length → (t.ks.getD i t0).bulk ≤ N ∧ ∀ x, 0 ≤ γ x ∧ γ x + (t.ks.getD i t0).bulk ≤ 4194304) := Lib.hid (fun i hi => ⟨T.kid_bulk hN hi, fun x => ⟨(HGM.out x).1, by have h1 := (HGM.out x).2; have h2 := T.bulk_kid t.ks i hi; omega⟩⟩)
  go_enter Tryz.func60, Tryz.ntmps60
  go_upto_region 1 with (fail)
  rw [← hW, ← hg]
  clear hW hg
  obtain ⟨x0, x1, x2, x3, x4, x5⟩ := ps.six
  go_wp2_with fail
  go_loopg [39] (n1 + 1) (fun gk vv wr => ∃ (i : Nat) (D : DU), gk + i = n1 + 1 ∧ i ≤ n1 ∧ vv = .int .i64 (i : Nat) ∧ Hid (BM wr bm (n + i) D) ∧ Hid (FM wr fm m Df) ∧ Hid (Cnt D (fun y => β y + cntL (t.ns.take i) y)) ∧ Below B W wr ∧ Hid (MK bm fm W wr))
  case atStart => exact ⟨0, Db, by omega, Nat.zero_le _, rfl, HBM, HFM, Lib.hid (fun x => by rw [HC.out x]; simp [cntL_nil]), HBV.out, HKV⟩
  case round =>
    obtain ⟨i, D, hi, hin, rfl, HBM', HFM', HC', hbv, HKV'⟩ := hrel
    clear HBM HFM HC HKV HBV
    have HBV := Lib.hid hbv
    have hBr := Nat.le_trans hBW hbv.size
    clear hbv
    by_cases hlt : i < n1
    · have hl0 : 0 < n1 := by omega
      obtain ⟨nbk, no, rfl, hRn, hnc⟩ := HST.out.2 (by rw [HN1.out]; exact hl0)
      have hcell := hnc i (by rw [HN1.out]; exact hlt)
      have hsz := sbulk_get t.ns i (by rw [HN1.out]; exact hlt)
      have hsn := fun x => cntL_snoc (t.ns.take i) (t.ns.getD i ⟨#[]⟩) x
      rw [← take_snoc _ (⟨#[]⟩ : ByteArray) _ (by rw [HN1.out]; exact hlt)] at hsn
      obtain ⟨s, hs⟩ : ∃ s, t.ns.getD i ⟨#[]⟩ = s := ⟨_, rfl⟩
      rw [hs] at hcell hsz hsn
      have e0 := (HBV.out.cell (by exact HR.out nbk hRn)).trans hcell
      have hsm : s.size ≤ maxLen := by unfold maxLen; omega
      have HSN := Lib.hid hsn
      have HCB := Lib.hid (cntL_nonneg (t.ns.take i) s.data.toList)
      have HCT := Lib.hid (cntL_take t.ns i s.data.toList)
      have HCL := Lib.hid (cntL_le t.ns s.data.toList)
      have hi0 : (0 : Int) ≤ i := by omega
      have hi1 : (i : Int) < n1 := by omega
      clear hcell hnc hsn hs hRn hsz
      go_wp2_with (first
        | (at_lookup; refine wpList_lookup_own_int _ rfl _ _ 91 rfl 9 3 .i64 lawS Tryz.underlying91 Tryz.underlying3 (zeroI _) bm _ _ rfl HBM'.out _ _ rfl (keyOf_string_mk Tryz.underlying9 hsm) ?_; intro c hat _; have hcc : c = β s.data.toList + cntL (t.ns.take i) s.data.toList := HC'.out.at hat; have hc1 : 0 ≤ c := (by have h1 := (HBD.out s.data.toList).1; have h2 := HCB.out; have h3 := HCT.out; have h4 := HCL.out; have h5 := HN1.out; omega); have hc2 : c ≤ 8388608 := (by have h1 := (HBD.out s.data.toList).2; have h2 := HCB.out; have h3 := HCT.out; have h4 := HCL.out; have h5 := HN1.out; omega); have HCC := Lib.hid hcc; clear hcc hat)
        | (at_mapUpdate; refine wpList_mapUpdate_own _ rfl _ _ _ 91 rfl 9 3 lawS Tryz.underlying91 _ bm (n + i) _ rfl HBM'.out (by unfold maxLen; omega) _ _ _ rfl rfl (keyOf_string_mk Tryz.underlying9 hsm) _ [] (plainElem_int Tryz.underlying3 (WalkArith.wf_i64 (by omega))) ?_; intro w1 hown1 hgr1))
      have hbv1 := below_map HBV.out hgr1 hBbm hBr
      have hval : (fun y => β y + cntL (t.ns.take (i + 1)) y) s.data.toList = c + 1 := by
        dsimp only
        rw [HSN.out, if_pos rfl, HCC.out]
        omega
      have hput : Cnt (D.put (.string s.data.toList) (.lit (.int .i64 (c + 1)))) (fun y => β y + cntL (t.ns.take (i + 1)) y) := by
        rw [← hval]
        exact Cnt.put (β' := fun y => β y + cntL (t.ns.take (i + 1)) y) HC'.out HBM'.out.isMap hsm (fun x hx => by rw [HSN.out, if_neg hx, Int.add_zero])
      have HP := Lib.hid hput
      have HO := Lib.hid hown1
      have hfm1 : Hid (FM w1 fm m Df) := Lib.hid (HFM'.out.kept hgr1 (by simp; omega))
      have hk1 : Hid (MK bm fm W w1) := Lib.hid (HKV'.out.trans (MK.grown hgr1 (.inl rfl)))
      clear hput hown1 hgr1 hval
      go_roundg (n1 - i)
      case measure => omega
      case rel => exact ⟨i + 1, _, by omega, by omega, by go_num, HO, hfm1, HP, hbv1, hk1⟩
    · have hfx : t.ns.take i = t.ns := by rw [List.take_of_length_le (by rw [HN1.out]; omega)]
      rw [hfx] at HC'
      clear hfx
      obtain rfl : n1 = i := by omega
      have ps2 := HKV'.out.blk ps hgb hgf
      clear x0 x1 x2 x3 x4 x5
      obtain ⟨x0, x1, x2, x3, x4, x5⟩ := ps2.six
      have HBM := HBM'
      have HFM := HFM'
      have HC : Hid (Cnt D γ) := Lib.hid (by rw [HGA.out]; exact HC'.out)
      have HKV := HKV'
      clear HBM' HFM' HC' HKV' hBr
      go_wp2_with fail
      go_loopg [51] (n3 + 1) (fun gk v51 wr => ∃ (i : Nat) (D E : DU), gk + i = n3 + 1 ∧ i ≤ n3 ∧ v51 = .int .i64 (i : Nat) ∧ Hid (BM wr bm ((n + n1) + 2 * T.bulks (t.ks.take i)) D) ∧ Hid (FM wr fm (m + T.bulks (t.ks.take i)) E) ∧ Hid (Cnt D γ) ∧ Hid (Fnd E (fun x => φ x || T.fvs (t.ks.take i) γ x)) ∧ Below B W wr ∧ Hid (MK bm fm W wr))
      case atStart => exact ⟨0, D, Df, by omega, Nat.zero_le _, rfl, Lib.hid (by simpa [T.bulks] using HBM.out), Lib.hid (by simpa [T.bulks] using HFM.out), HC, Lib.hid (fun x => by rw [HF.out x]; simp [T.fvs]), HBV.out, HKV⟩
      case round =>
        obtain ⟨i, D, E, hi, hin, rfl, HBM', HFM', HC', HF', hbv, HKV'⟩ := hrel
        clear HBM HFM HC HF HKV HBV
        have HBV := Lib.hid hbv
        have hBr := Nat.le_trans hBW hbv.size
        clear hbv
        by_cases hlt : i < n3
        · have hl0 : 0 < n3 := by omega
          obtain ⟨kb, ko, rfl, hRk, hI⟩ := HKD.out hl0
          have hkB := HR.out kb hRk
          obtain ⟨v0, v1, v2, v3, v4, v5, h6, hkI⟩ := T.Ins.get _ _ _ hI (by rw [HN3.out]; exact hlt)
          have hfk := HBK.out i (by rw [HN3.out]; exact hlt)
          have hbin := T.bulks_in t.ks i (by rw [HN3.out]; exact hlt)
          have hbs := T.bulks_snoc (t.ks.take i) (t.ks.getD i t0)
          have hfs := fun x => T.fvs_snoc γ x (t.ks.take i) (t.ks.getD i t0)
          rw [← take_snoc _ t0 _ (by rw [HN3.out]; exact hlt)] at hbs hfs
          obtain ⟨k, hk⟩ : ∃ k, t.ks.getD i t0 = k := ⟨_, rfl⟩
          rw [hk] at hkI hfk hbin hbs hfs
          obtain ⟨B1, d1, q1, B2, d2, q2, B3, d3, q3, kkk, nmk, ngk, rfl, rfl, rfl, rfl, rfl, rfl⟩ := kid_form hkI
          have h61 := h6.keep (fun p v hp hc => (HBW0.out.cell (by rw [hp]; exact hkB)).trans hc)
          obtain ⟨e0, e1, e2, e3, e4, e5⟩ := h61.keep (fun p v hp hc => (HBV.out.cell (by rw [hp]; exact hkB)).trans hc)
          obtain ⟨V, hV, pv, hbV⟩ := made_blk wr #[.int .i64 kkk, .string nmk, .slice B1 q1 d1, .bool ngk, .slice B2 q2 d2, .slice B3 q3 d3] 28
          obtain ⟨gv, hgv⟩ : ∃ g, g = wr.heap.size := ⟨_, rfl⟩
          have HB2 : Hid (BM V bm ((n + n1) + 2 * T.bulks (t.ks.take i)) D) := Lib.hid (hV ▸ HBM'.out.alloc _)
          have HF2 : Hid (FM V fm (m + T.bulks (t.ks.take i)) E) := Lib.hid (hV ▸ HFM'.out.alloc _)
          have HBVV := Lib.hid (HBV.out.trans (hbV.mono hBr))
          have HKVV := Lib.hid (HKV'.out.trans (MK.below hbV))
          have HKI := Lib.hid ((hkI.under HR.out HBW0.out).under HR.out HBVV.out)
          have hBV := Nat.le_trans hBr hbV.size
          rw [← hgv] at pv
          have HFK := Lib.hid hfk
          have HBS := Lib.hid hbs
          have HFS := Lib.hid hfs
          have HCE := Lib.hid (ih k V R _ B bm fm _ _ D E γ (fun x => φ x || T.fvs (t.ks.take i) γ x) hfk.1 (by omega) HKI.out HR.out hBbm hBfm hne hBV HB2.out HF2.out HC'.out HF'.out (fun x => ⟨(hfk.2 x).1, (hfk.2 x).2⟩) (by omega) (by omega))
          have hi0 : (0 : Int) ≤ i := by omega
          have hi1 : (i : Int) < n3 := by omega
          clear hbV h6 h61 hkI hfk hk hI hbs hfs hbin HBM' HFM' HC' HF' hRk HKV' hBr hBV
          go_upto_region 13 with (fail)
          rw [← hV, ← hgv]
          clear e0 e1 e2 e3 e4 e5 hV hgv
          obtain ⟨x0, x1, x2, x3, x4, x5⟩ := pv.six
          go_wp2_with (go_at_call 60; refine HCE.out.mono ?_; rintro e w5 ⟨rfl, D5, E5, hB5, hF5, hC5, hFd5, hbl5, hk5⟩)
          go_roundg (n3 - i)
          case measure => omega
          case rel => exact ⟨i + 1, D5, E5, by omega, by omega, by go_num, Lib.hid (by rw [HBS.out, Nat.mul_add, ← Nat.add_assoc]; exact hB5), Lib.hid (by rw [HBS.out, ← Nat.add_assoc]; exact hF5), Lib.hid hC5, Lib.hid (fun x => by rw [hFd5 x]; dsimp only; rw [HFS.out x, Bool.or_assoc]), HBVV.out.trans hbl5, Lib.hid (HKVV.out.trans hk5)⟩
        · have hfx : t.ks.take i = t.ks := by rw [List.take_of_length_le (by rw [HN3.out]; omega)]
          rw [hfx] at HBM' HFM' HF'
          clear hfx
          obtain rfl : n3 = i := by omega
          have HFE := HF'
          have ps3 := HKV'.out.blk ps hgb hgf
          obtain ⟨x0, x1, x2, x3, x4, x5⟩ := ps3.six
          have HBM := HBM'
          have HFM := HFM'
          have HC := HC'
          have HKV := HKV'
          clear HBM' HFM' HC' HF' HKV' hBr
          go_wp2_with fail
          go_loopg [64] (n1 + 1) (fun gk vv wr => ∃ (i : Nat) (D' : DU), gk + i = n1 + 1 ∧ i ≤ n1 ∧ vv = .int .i64 (i : Nat) ∧ Hid (BM wr bm ((n + n1 + 2 * T.bulks t.ks) + i) D') ∧ Hid (FM wr fm (m + T.bulks t.ks) E) ∧ Hid (Cnt D' (fun y => γ y - cntL (t.ns.take i) y)) ∧ Below B W wr ∧ Hid (MK bm fm W wr))
          case atStart => exact ⟨0, D, by omega, Nat.zero_le _, rfl, HBM, HFM, Lib.hid (fun x => by rw [HC.out x]; simp [cntL_nil]), HBV.out, HKV⟩
          case round =>
            obtain ⟨i, D, hi, hin, rfl, HBM', HFM', HC', hbv, HKV'⟩ := hrel
            clear HBM HFM HC HKV HBV
            have HBV := Lib.hid hbv
            have hBr := Nat.le_trans hBW hbv.size
            clear hbv
            by_cases hlt : i < n1
            · have hl0 : 0 < n1 := by omega
              obtain ⟨nbk, no, rfl, hRn, hnc⟩ := HST.out.2 (by rw [HN1.out]; exact hl0)
              have hcell := hnc i (by rw [HN1.out]; exact hlt)
              have hsz := sbulk_get t.ns i (by rw [HN1.out]; exact hlt)
              have hsn := fun x => cntL_snoc (t.ns.take i) (t.ns.getD i ⟨#[]⟩) x
              rw [← take_snoc _ (⟨#[]⟩ : ByteArray) _ (by rw [HN1.out]; exact hlt)] at hsn
              obtain ⟨s, hs⟩ : ∃ s, t.ns.getD i ⟨#[]⟩ = s := ⟨_, rfl⟩
              rw [hs] at hcell hsz hsn
              have e0 := (HBV.out.cell (by exact HR.out nbk hRn)).trans hcell
              have hsm : s.size ≤ maxLen := by unfold maxLen; omega
              have HSN := Lib.hid hsn
              have HCB := Lib.hid (cntL_nonneg (t.ns.take i) s.data.toList)
              have HCT := Lib.hid (cntL_take t.ns i s.data.toList)
              have HCL := Lib.hid (cntL_le t.ns s.data.toList)
              have hi0 : (0 : Int) ≤ i := by omega
              have hi1 : (i : Int) < n1 := by omega
              clear hcell hnc hsn hs hRn hsz
              go_wp2_with (first
                | (at_lookup; refine wpList_lookup_own_int _ rfl _ _ 91 rfl 9 3 .i64 lawS Tryz.underlying91 Tryz.underlying3 (zeroI _) bm _ _ rfl HBM'.out _ _ rfl (keyOf_string_mk Tryz.underlying9 hsm) ?_; intro c hat _; have hcc : c = γ s.data.toList - cntL (t.ns.take i) s.data.toList := HC'.out.at hat; have hc1 : 0 ≤ c := (by have h1 := (HGN.out s.data.toList).1; have h2 := HCB.out; have h3 := HCT.out; have h4 := HCL.out; have h5 := HN1.out; omega); have hc2 : c ≤ 8388608 := (by have h1 := (HGN.out s.data.toList).2; have h2 := HCB.out; have h3 := HCT.out; have h4 := HCL.out; have h5 := HN1.out; omega); have HCC := Lib.hid hcc; clear hcc hat)
                | (at_mapUpdate; refine wpList_mapUpdate_own _ rfl _ _ _ 91 rfl 9 3 lawS Tryz.underlying91 _ bm ((n + n1 + 2 * T.bulks t.ks) + i) _ rfl HBM'.out (by unfold maxLen; omega) _ _ _ rfl rfl (keyOf_string_mk Tryz.underlying9 hsm) _ [] (plainElem_int Tryz.underlying3 (WalkArith.wf_i64 (by omega))) ?_; intro w1 hown1 hgr1))
              have hbv1 := below_map HBV.out hgr1 hBbm hBr
              have hval : (fun y => γ y - cntL (t.ns.take (i + 1)) y) s.data.toList = c - 1 := by
                dsimp only
                rw [HSN.out, if_pos rfl, HCC.out]
                omega
              have hput : Cnt (D.put (.string s.data.toList) (.lit (.int .i64 (c - 1)))) (fun y => γ y - cntL (t.ns.take (i + 1)) y) := by
                rw [← hval]
                exact Cnt.put (β' := fun y => γ y - cntL (t.ns.take (i + 1)) y) HC'.out HBM'.out.isMap hsm (fun x hx => by rw [HSN.out, if_neg hx, Int.add_zero])
              have HP := Lib.hid hput
              have HO := Lib.hid hown1
              have hfm1 : Hid (FM w1 fm (m + T.bulks t.ks) E) := Lib.hid (HFM'.out.kept hgr1 (by simp; omega))
              have hk1 : Hid (MK bm fm W w1) := Lib.hid (HKV'.out.trans (MK.grown hgr1 (.inl rfl)))
              clear hput hown1 hgr1 hval
              go_roundg (n1 - i)
              case measure => omega
              case rel => exact ⟨i + 1, _, by omega, by omega, by go_num, HO, hfm1, HP, hbv1, hk1⟩
            · have hfx : t.ns.take i = t.ns := by rw [List.take_of_length_le (by rw [HN1.out]; omega)]
              rw [hfx] at HC'
              clear hfx
              obtain rfl : n1 = i := by omega
              go_wp2_with fail
              go_end0
              refine ⟨rfl, D, E, HBM'.out.mono (by omega), HFM'.out.mono (by omega), fun x => ?_, fun x => by rw [HFE.out x]; dsimp only; rw [HFQ.out x], HBW0.out.trans HBV.out, HK0.out.trans HKV'.out⟩
              rw [HC'.out x, HGA.out]
              dsimp only
              rw [Int.add_sub_cancel]
end Go.Proofs.YthiadenmljbdaaaGreatDoor
end
section
namespace Go.Proofs.YthiadenmljbdaaaGreatDoor
open Go.RowKit
open Go.Shelf Go.Maps Go.Sort Go.WideMaps
set_option maxRecDepth 100000 in
set_option maxHeartbeats 4000000 in
theorem free_bind22 (N : Nat) (hN2 : N + 1 ≤ 1048576) (ih : FreeW N) (t : T) (h2 : t.k = 22) (w : World) (R : Nat → Prop) (v : Value) (B bm fm n m : Nat) (Db Df : DU) (β : List UInt8 → Int) (φ : List UInt8 → Bool) (hN : t.bulk ≤ N + 1) (h : T.In w R t v) (hR : ∀ g, R g → g < B) (hBbm : B ≤ bm) (hBfm : B ≤ fm) (hne : bm ≠ fm) (hBw : B ≤ w.heap.size)
    (hbm : BM w bm n Db) (hfm : FM w fm m Df) (hct : Cnt Db β) (hfd : Fnd Df φ) (hbd : ∀ x, 0 ≤ β x ∧ β x + t.bulk ≤ 4194304) (hn : n + 2 * t.bulk ≤ 1099511627776) (hm : m + t.bulk ≤ 1099511627776) :
    Calls Tryz.prog 60 #[v, .map (some bm), .map (some fm)] w fun e w' => e = .returned (.tuple #[]) ∧ ∃ (D E : DU), BM w' bm (n + 2 * t.bulk) D ∧ FM w' fm (m + t.bulk) E ∧ Cnt D β ∧ Fnd E (fun x => φ x || t.fv β x) ∧ Below B w w' ∧ MK bm fm w w' := by
  obtain ⟨A1, c1, A2, c2, A3, c3, rfl, hst, -, -, hkd⟩ := in_formR h
  obtain ⟨hl1, hl2, _, _, hl5⟩ := T.len_le hN
  have hbulk : sbulk t.ns + t.mg.length + t.nm.size + T.bulks t.ks + 1 = t.bulk := by
    cases t
    simp only [T.bulk, T.ns, T.mg, T.nm, T.ks]
    omega
  have hsbl := sbulk_len t.ns
  have hfv := fun x => T.fv_eq t β x
  obtain ⟨nm, hnm⟩ : ∃ x, t.nm = x := ⟨_, rfl⟩
  obtain ⟨ng, hng⟩ : ∃ x, t.ng = x := ⟨_, rfl⟩
  obtain ⟨n1, hn1⟩ : ∃ x, t.ns.length = x := ⟨_, rfl⟩
  obtain ⟨n2, hn2⟩ : ∃ x, t.mg.length = x := ⟨_, rfl⟩
  obtain ⟨n3, hn3⟩ : ∃ x, t.ks.length = x := ⟨_, rfl⟩
  obtain ⟨kk, hkk⟩ : ∃ x, t.k = x := ⟨_, rfl⟩
  rw [hkk] at h2 hfv
  rw [hnm] at hl1 hfv
  rw [hn3] at hkd hl5
  rw [hn1] at hsbl hl2
  rw [hkk, hnm, hng, hn1, hn2, hn3]
  obtain ⟨W, hW, ps, hbW⟩ := made_blk w #[.int .i64 kk, .string nm, .slice A1 n1 c1, .bool ng, .slice A2 n2 c2, .slice A3 n3 c3] 28
  obtain ⟨g, hg⟩ : ∃ g, g = w.heap.size := ⟨_, rfl⟩
  have hgb : g ≠ bm := by have := hbm.lt; omega
  have hgf : g ≠ fm := by have := hfm.lt; omega
  have HBM : Hid (BM W bm n Db) := Lib.hid (hW ▸ hbm.alloc _)
  have HFM : Hid (FM W fm m Df) := Lib.hid (hW ▸ hfm.alloc _)
  have HBW0 := Lib.hid (hbW.mono hBw)
  have HK0 : Hid (MK bm fm w W) := Lib.hid (MK.below hbW)
  have hBW := Nat.le_trans hBw hbW.size
  have HST := Lib.hid (hst.keep (fun p v hp hc => (HBW0.out.cell (hR _ hp)).trans hc) (fun _ h => h))
  rw [← hg] at ps
  have HR := Lib.hid hR
  have HKD := Lib.hid hkd
  have HN1 := Lib.hid hn1
  have HN3 := Lib.hid hn3
  have HNM := Lib.hid hnm
  have HFV := Lib.hid hfv
  have HC := Lib.hid hct
  have HF := Lib.hid hfd
  have HBD := Lib.hid hbd
  have hnmx : nm.size ≤ maxLen := by unfold maxLen; omega
  clear h hR hkd hn1 hn2 hn3 hnm hng hst hbW hBw hbm hfm hct hfd hbd hfv
  subst h2
  obtain ⟨γ, hγ⟩ : ∃ γ : List UInt8 → Int, γ = fun y => β y + cntL t.ns y := ⟨_, rfl⟩
  have HGA := Lib.hid hγ
  have HFQ : Hid (∀ x, t.fv β x = T.fvs t.ks γ x) := Lib.hid (fun x => by rw [HFV.out x, HGA.out]; unfold bnd; rw [if_pos (by decide)]; rfl)
  have HGM : Hid (∀ x, 0 ≤ γ x ∧ γ x + T.bulks t.ks ≤ 4194304) := Lib.hid (fun x => by
    rw [HGA.out]
    have h1 := HBD.out x
    have h2 := cntL_nonneg t.ns x
    have h3 := cntL_le t.ns x
    have h4 := HN1.out
    dsimp only
    omega)
  have HGN : Hid (∀ x, cntL t.ns x ≤ γ x ∧ γ x ≤ 4194304) := Lib.hid (fun x => by
    have h2 := (HGM.out x).2
    have h1 := HBD.out x
    refine ⟨?_, by omega⟩
    rw [HGA.out]
    dsimp only
    omega)
  clear hγ
  have HBV := Lib.hid (Below.refl B W)
  have HKV : Hid (MK bm fm W W) := Lib.hid (MK.refl W)
  have hbi := ih
  have HBK : Hid (∀ i, i < t.ks.length → (t.ks.getD i t0).bulk ≤ N ∧ ∀ x, 0 ≤ γ x ∧ γ x + (t.ks.getD i t0).bulk ≤ 4194304) := Lib.hid (fun i hi => ⟨T.kid_bulk hN hi, fun x => ⟨(HGM.out x).1, by have h1 := (HGM.out x).2; have h2 := T.bulk_kid t.ks i hi; omega⟩⟩)
  go_enter Tryz.func60, Tryz.ntmps60
  go_upto_region 1 with (fail)
  rw [← hW, ← hg]
  clear hW hg
  obtain ⟨x0, x1, x2, x3, x4, x5⟩ := ps.six
  go_wp2_with fail
  go_loopg [39] (n1 + 1) (fun gk vv wr => ∃ (i : Nat) (D : DU), gk + i = n1 + 1 ∧ i ≤ n1 ∧ vv = .int .i64 (i : Nat) ∧ Hid (BM wr bm (n + i) D) ∧ Hid (FM wr fm m Df) ∧ Hid (Cnt D (fun y => β y + cntL (t.ns.take i) y)) ∧ Below B W wr ∧ Hid (MK bm fm W wr))
  case atStart => exact ⟨0, Db, by omega, Nat.zero_le _, rfl, HBM, HFM, Lib.hid (fun x => by rw [HC.out x]; simp [cntL_nil]), HBV.out, HKV⟩
  case round =>
    obtain ⟨i, D, hi, hin, rfl, HBM', HFM', HC', hbv, HKV'⟩ := hrel
    clear HBM HFM HC HKV HBV
    have HBV := Lib.hid hbv
    have hBr := Nat.le_trans hBW hbv.size
    clear hbv
    by_cases hlt : i < n1
    · have hl0 : 0 < n1 := by omega
      obtain ⟨nbk, no, rfl, hRn, hnc⟩ := HST.out.2 (by rw [HN1.out]; exact hl0)
      have hcell := hnc i (by rw [HN1.out]; exact hlt)
      have hsz := sbulk_get t.ns i (by rw [HN1.out]; exact hlt)
      have hsn := fun x => cntL_snoc (t.ns.take i) (t.ns.getD i ⟨#[]⟩) x
      rw [← take_snoc _ (⟨#[]⟩ : ByteArray) _ (by rw [HN1.out]; exact hlt)] at hsn
      obtain ⟨s, hs⟩ : ∃ s, t.ns.getD i ⟨#[]⟩ = s := ⟨_, rfl⟩
      rw [hs] at hcell hsz hsn
      have e0 := (HBV.out.cell (by exact HR.out nbk hRn)).trans hcell
      have hsm : s.size ≤ maxLen := by unfold maxLen; omega
      have HSN := Lib.hid hsn
      have HCB := Lib.hid (cntL_nonneg (t.ns.take i) s.data.toList)
      have HCT := Lib.hid (cntL_take t.ns i s.data.toList)
      have HCL := Lib.hid (cntL_le t.ns s.data.toList)
      have hi0 : (0 : Int) ≤ i := by omega
      have hi1 : (i : Int) < n1 := by omega
      clear hcell hnc hsn hs hRn hsz
      go_wp2_with (first
        | (at_lookup; refine wpList_lookup_own_int _ rfl _ _ 91 rfl 9 3 .i64 lawS Tryz.underlying91 Tryz.underlying3 (zeroI _) bm _ _ rfl HBM'.out _ _ rfl (keyOf_string_mk Tryz.underlying9 hsm) ?_; intro c hat _; have hcc : c = β s.data.toList + cntL (t.ns.take i) s.data.toList := HC'.out.at hat; have hc1 : 0 ≤ c := (by have h1 := (HBD.out s.data.toList).1; have h2 := HCB.out; have h3 := HCT.out; have h4 := HCL.out; have h5 := HN1.out; omega); have hc2 : c ≤ 8388608 := (by have h1 := (HBD.out s.data.toList).2; have h2 := HCB.out; have h3 := HCT.out; have h4 := HCL.out; have h5 := HN1.out; omega); have HCC := Lib.hid hcc; clear hcc hat)
        | (at_mapUpdate; refine wpList_mapUpdate_own _ rfl _ _ _ 91 rfl 9 3 lawS Tryz.underlying91 _ bm (n + i) _ rfl HBM'.out (by unfold maxLen; omega) _ _ _ rfl rfl (keyOf_string_mk Tryz.underlying9 hsm) _ [] (plainElem_int Tryz.underlying3 (WalkArith.wf_i64 (by omega))) ?_; intro w1 hown1 hgr1))
      have hbv1 := below_map HBV.out hgr1 hBbm hBr
      have hval : (fun y => β y + cntL (t.ns.take (i + 1)) y) s.data.toList = c + 1 := by
        dsimp only
        rw [HSN.out, if_pos rfl, HCC.out]
        omega
      have hput : Cnt (D.put (.string s.data.toList) (.lit (.int .i64 (c + 1)))) (fun y => β y + cntL (t.ns.take (i + 1)) y) := by
        rw [← hval]
        exact Cnt.put (β' := fun y => β y + cntL (t.ns.take (i + 1)) y) HC'.out HBM'.out.isMap hsm (fun x hx => by rw [HSN.out, if_neg hx, Int.add_zero])
      have HP := Lib.hid hput
      have HO := Lib.hid hown1
      have hfm1 : Hid (FM w1 fm m Df) := Lib.hid (HFM'.out.kept hgr1 (by simp; omega))
      have hk1 : Hid (MK bm fm W w1) := Lib.hid (HKV'.out.trans (MK.grown hgr1 (.inl rfl)))
      clear hput hown1 hgr1 hval
      go_roundg (n1 - i)
      case measure => omega
      case rel => exact ⟨i + 1, _, by omega, by omega, by go_num, HO, hfm1, HP, hbv1, hk1⟩
    · have hfx : t.ns.take i = t.ns := by rw [List.take_of_length_le (by rw [HN1.out]; omega)]
      rw [hfx] at HC'
      clear hfx
      obtain rfl : n1 = i := by omega
      have ps2 := HKV'.out.blk ps hgb hgf
      clear x0 x1 x2 x3 x4 x5
      obtain ⟨x0, x1, x2, x3, x4, x5⟩ := ps2.six
      have HBM := HBM'
      have HFM := HFM'
      have HC : Hid (Cnt D γ) := Lib.hid (by rw [HGA.out]; exact HC'.out)
      have HKV := HKV'
      clear HBM' HFM' HC' HKV' hBr
      go_wp2_with fail
      go_loopg [51] (n3 + 1) (fun gk v51 wr => ∃ (i : Nat) (D E : DU), gk + i = n3 + 1 ∧ i ≤ n3 ∧ v51 = .int .i64 (i : Nat) ∧ Hid (BM wr bm ((n + n1) + 2 * T.bulks (t.ks.take i)) D) ∧ Hid (FM wr fm (m + T.bulks (t.ks.take i)) E) ∧ Hid (Cnt D γ) ∧ Hid (Fnd E (fun x => φ x || T.fvs (t.ks.take i) γ x)) ∧ Below B W wr ∧ Hid (MK bm fm W wr))
      case atStart => exact ⟨0, D, Df, by omega, Nat.zero_le _, rfl, Lib.hid (by simpa [T.bulks] using HBM.out), Lib.hid (by simpa [T.bulks] using HFM.out), HC, Lib.hid (fun x => by rw [HF.out x]; simp [T.fvs]), HBV.out, HKV⟩
      case round =>
        obtain ⟨i, D, E, hi, hin, rfl, HBM', HFM', HC', HF', hbv, HKV'⟩ := hrel
        clear HBM HFM HC HF HKV HBV
        have HBV := Lib.hid hbv
        have hBr := Nat.le_trans hBW hbv.size
        clear hbv
        by_cases hlt : i < n3
        · have hl0 : 0 < n3 := by omega
          obtain ⟨kb, ko, rfl, hRk, hI⟩ := HKD.out hl0
          have hkB := HR.out kb hRk
          obtain ⟨v0, v1, v2, v3, v4, v5, h6, hkI⟩ := T.Ins.get _ _ _ hI (by rw [HN3.out]; exact hlt)
          have hfk := HBK.out i (by rw [HN3.out]; exact hlt)
          have hbin := T.bulks_in t.ks i (by rw [HN3.out]; exact hlt)
          have hbs := T.bulks_snoc (t.ks.take i) (t.ks.getD i t0)
          have hfs := fun x => T.fvs_snoc γ x (t.ks.take i) (t.ks.getD i t0)
          rw [← take_snoc _ t0 _ (by rw [HN3.out]; exact hlt)] at hbs hfs
          obtain ⟨k, hk⟩ : ∃ k, t.ks.getD i t0 = k := ⟨_, rfl⟩
          rw [hk] at hkI hfk hbin hbs hfs
          obtain ⟨B1, d1, q1, B2, d2, q2, B3, d3, q3, kkk, nmk, ngk, rfl, rfl, rfl, rfl, rfl, rfl⟩ := kid_form hkI
          have h61 := h6.keep (fun p v hp hc => (HBW0.out.cell (by rw [hp]; exact hkB)).trans hc)
          obtain ⟨e0, e1, e2, e3, e4, e5⟩ := h61.keep (fun p v hp hc => (HBV.out.cell (by rw [hp]; exact hkB)).trans hc)
          obtain ⟨V, hV, pv, hbV⟩ := made_blk wr #[.int .i64 kkk, .string nmk, .slice B1 q1 d1, .bool ngk, .slice B2 q2 d2, .slice B3 q3 d3] 28
          obtain ⟨gv, hgv⟩ : ∃ g, g = wr.heap.size := ⟨_, rfl⟩
          have HB2 : Hid (BM V bm ((n + n1) + 2 * T.bulks (t.ks.take i)) D) := Lib.hid (hV ▸ HBM'.out.alloc _)
          have HF2 : Hid (FM V fm (m + T.bulks (t.ks.take i)) E) := Lib.hid (hV ▸ HFM'.out.alloc _)
          have HBVV := Lib.hid (HBV.out.trans (hbV.mono hBr))
          have HKVV := Lib.hid (HKV'.out.trans (MK.below hbV))
          have HKI := Lib.hid ((hkI.under HR.out HBW0.out).under HR.out HBVV.out)
          have hBV := Nat.le_trans hBr hbV.size
          rw [← hgv] at pv
          have HFK := Lib.hid hfk
          have HBS := Lib.hid hbs
          have HFS := Lib.hid hfs
          have HCE := Lib.hid (ih k V R _ B bm fm _ _ D E γ (fun x => φ x || T.fvs (t.ks.take i) γ x) hfk.1 (by omega) HKI.out HR.out hBbm hBfm hne hBV HB2.out HF2.out HC'.out HF'.out (fun x => ⟨(hfk.2 x).1, (hfk.2 x).2⟩) (by omega) (by omega))
          have hi0 : (0 : Int) ≤ i := by omega
          have hi1 : (i : Int) < n3 := by omega
          clear hbV h6 h61 hkI hfk hk hI hbs hfs hbin HBM' HFM' HC' HF' hRk HKV' hBr hBV
          go_upto_region 13 with (fail)
          rw [← hV, ← hgv]
          clear e0 e1 e2 e3 e4 e5 hV hgv
          obtain ⟨x0, x1, x2, x3, x4, x5⟩ := pv.six
          go_wp2_with (go_at_call 60; refine HCE.out.mono ?_; rintro e w5 ⟨rfl, D5, E5, hB5, hF5, hC5, hFd5, hbl5, hk5⟩)
          go_roundg (n3 - i)
          case measure => omega
          case rel => exact ⟨i + 1, D5, E5, by omega, by omega, by go_num, Lib.hid (by rw [HBS.out, Nat.mul_add, ← Nat.add_assoc]; exact hB5), Lib.hid (by rw [HBS.out, ← Nat.add_assoc]; exact hF5), Lib.hid hC5, Lib.hid (fun x => by rw [hFd5 x]; dsimp only; rw [HFS.out x, Bool.or_assoc]), HBVV.out.trans hbl5, Lib.hid (HKVV.out.trans hk5)⟩
        · have hfx : t.ks.take i = t.ks := by rw [List.take_of_length_le (by rw [HN3.out]; omega)]
          rw [hfx] at HBM' HFM' HF'
          clear hfx
          obtain rfl : n3 = i := by omega
          have HFE := HF'
          have ps3 := HKV'.out.blk ps hgb hgf
          obtain ⟨x0, x1, x2, x3, x4, x5⟩ := ps3.six
          have HBM := HBM'
          have HFM := HFM'
          have HC := HC'
          have HKV := HKV'
          clear HBM' HFM' HC' HF' HKV' hBr
          go_wp2_with fail
          go_loopg [64] (n1 + 1) (fun gk vv wr => ∃ (i : Nat) (D' : DU), gk + i = n1 + 1 ∧ i ≤ n1 ∧ vv = .int .i64 (i : Nat) ∧ Hid (BM wr bm ((n + n1 + 2 * T.bulks t.ks) + i) D') ∧ Hid (FM wr fm (m + T.bulks t.ks) E) ∧ Hid (Cnt D' (fun y => γ y - cntL (t.ns.take i) y)) ∧ Below B W wr ∧ Hid (MK bm fm W wr))
          case atStart => exact ⟨0, D, by omega, Nat.zero_le _, rfl, HBM, HFM, Lib.hid (fun x => by rw [HC.out x]; simp [cntL_nil]), HBV.out, HKV⟩
          case round =>
            obtain ⟨i, D, hi, hin, rfl, HBM', HFM', HC', hbv, HKV'⟩ := hrel
            clear HBM HFM HC HKV HBV
            have HBV := Lib.hid hbv
            have hBr := Nat.le_trans hBW hbv.size
            clear hbv
            by_cases hlt : i < n1
            · have hl0 : 0 < n1 := by omega
              obtain ⟨nbk, no, rfl, hRn, hnc⟩ := HST.out.2 (by rw [HN1.out]; exact hl0)
              have hcell := hnc i (by rw [HN1.out]; exact hlt)
              have hsz := sbulk_get t.ns i (by rw [HN1.out]; exact hlt)
              have hsn := fun x => cntL_snoc (t.ns.take i) (t.ns.getD i ⟨#[]⟩) x
              rw [← take_snoc _ (⟨#[]⟩ : ByteArray) _ (by rw [HN1.out]; exact hlt)] at hsn
              obtain ⟨s, hs⟩ : ∃ s, t.ns.getD i ⟨#[]⟩ = s := ⟨_, rfl⟩
              rw [hs] at hcell hsz hsn
              have e0 := (HBV.out.cell (by exact HR.out nbk hRn)).trans hcell
              have hsm : s.size ≤ maxLen := by unfold maxLen; omega
              have HSN := Lib.hid hsn
              have HCB := Lib.hid (cntL_nonneg (t.ns.take i) s.data.toList)
              have HCT := Lib.hid (cntL_take t.ns i s.data.toList)
              have HCL := Lib.hid (cntL_le t.ns s.data.toList)
              have hi0 : (0 : Int) ≤ i := by omega
              have hi1 : (i : Int) < n1 := by omega
              clear hcell hnc hsn hs hRn hsz
              go_wp2_with (first
                | (at_lookup; refine wpList_lookup_own_int _ rfl _ _ 91 rfl 9 3 .i64 lawS Tryz.underlying91 Tryz.underlying3 (zeroI _) bm _ _ rfl HBM'.out _ _ rfl (keyOf_string_mk Tryz.underlying9 hsm) ?_; intro c hat _; have hcc : c = γ s.data.toList - cntL (t.ns.take i) s.data.toList := HC'.out.at hat; have hc1 : 0 ≤ c := (by have h1 := (HGN.out s.data.toList).1; have h2 := HCB.out; have h3 := HCT.out; have h4 := HCL.out; have h5 := HN1.out; omega); have hc2 : c ≤ 8388608 := (by have h1 := (HGN.out s.data.toList).2; have h2 := HCB.out; have h3 := HCT.out; have h4 := HCL.out; have h5 := HN1.out; omega); have HCC := Lib.hid hcc; clear hcc hat)
                | (at_mapUpdate; refine wpList_mapUpdate_own _ rfl _ _ _ 91 rfl 9 3 lawS Tryz.underlying91 _ bm ((n + n1 + 2 * T.bulks t.ks) + i) _ rfl HBM'.out (by unfold maxLen; omega) _ _ _ rfl rfl (keyOf_string_mk Tryz.underlying9 hsm) _ [] (plainElem_int Tryz.underlying3 (WalkArith.wf_i64 (by omega))) ?_; intro w1 hown1 hgr1))
              have hbv1 := below_map HBV.out hgr1 hBbm hBr
              have hval : (fun y => γ y - cntL (t.ns.take (i + 1)) y) s.data.toList = c - 1 := by
                dsimp only
                rw [HSN.out, if_pos rfl, HCC.out]
                omega
              have hput : Cnt (D.put (.string s.data.toList) (.lit (.int .i64 (c - 1)))) (fun y => γ y - cntL (t.ns.take (i + 1)) y) := by
                rw [← hval]
                exact Cnt.put (β' := fun y => γ y - cntL (t.ns.take (i + 1)) y) HC'.out HBM'.out.isMap hsm (fun x hx => by rw [HSN.out, if_neg hx, Int.add_zero])
              have HP := Lib.hid hput
              have HO := Lib.hid hown1
              have hfm1 : Hid (FM w1 fm (m + T.bulks t.ks) E) := Lib.hid (HFM'.out.kept hgr1 (by simp; omega))
              have hk1 : Hid (MK bm fm W w1) := Lib.hid (HKV'.out.trans (MK.grown hgr1 (.inl rfl)))
              clear hput hown1 hgr1 hval
              go_roundg (n1 - i)
              case measure => omega
              case rel => exact ⟨i + 1, _, by omega, by omega, by go_num, HO, hfm1, HP, hbv1, hk1⟩
            · have hfx : t.ns.take i = t.ns := by rw [List.take_of_length_le (by rw [HN1.out]; omega)]
              rw [hfx] at HC'
              clear hfx
              obtain rfl : n1 = i := by omega
              go_wp2_with fail
              go_end0
              refine ⟨rfl, D, E, HBM'.out.mono (by omega), HFM'.out.mono (by omega), fun x => ?_, fun x => by rw [HFE.out x]; dsimp only; rw [HFQ.out x], HBW0.out.trans HBV.out, HK0.out.trans HKV'.out⟩
              rw [HC'.out x, HGA.out]
              dsimp only
              rw [Int.add_sub_cancel]
end Go.Proofs.YthiadenmljbdaaaGreatDoor
end
section
namespace Go.Proofs.YthiadenmljbdaaaGreatDoor
open Go.RowKit
open Go.Shelf Go.Maps Go.Sort Go.WideMaps
theorem free_all : ∀ (M : Nat), FreeW M
  | 0, t, _, _, _, _, _, _, _, _, _, _, _, _, hN, _, _, _, _, _, _, _, _, _, _, _, _, _, _ => by have := T.bulk_pos t; omega
  | M + 1, t, w, R, v, B, bm, fm, n, m, Db, Df, β, φ, hN, hN2, h, hR, h1, h2, h3, h4, hb, hf, hc, hd, hbd, hn, hm => by
    have ih := free_all M
    by_cases k2 : t.k = 2
    · cases hq : (β t.nm.data.toList == 0) with
      | false => exact free_var0 M hN2 ih t k2 w R v B bm fm n m Db Df β φ hN h hR h1 h2 h3 h4 hb hf hc hd hbd hn hm hq
      | true => exact free_var1 M hN2 ih t k2 w R v B bm fm n m Db Df β φ hN h hR h1 h2 h3 h4 hb hf hc hd hbd hn hm hq
    · by_cases k21 : t.k = 21
      · exact free_bind21 M hN2 ih t k21 w R v B bm fm n m Db Df β φ hN h hR h1 h2 h3 h4 hb hf hc hd hbd hn hm
      · by_cases k22 : t.k = 22
        · exact free_bind22 M hN2 ih t k22 w R v B bm fm n m Db Df β φ hN h hR h1 h2 h3 h4 hb hf hc hd hbd hn hm
        · exact free_other M hN2 ih t k2 k21 k22 w R v B bm fm n m Db Df β φ hN h hR h1 h2 h3 h4 hb hf hc hd hbd hn hm
def FreeL (t : T) (L : List (List UInt8)) : Prop := L.Nodup ∧ (∀ x, x ∈ L ↔ t.fv (fun _ => 0) x = true) ∧ L.Pairwise (fun a b => leB a b = true)
theorem sorted_leB (l : List (List UInt8)) : (l.mergeSort leB).Pairwise (fun a b => leB a b = true) :=
  List.pairwise_mergeSort (fun a b c h1 h2 => by simp only [leB, decide_eq_true_eq] at *; exact List.le_trans h1 h2) (fun a b => by simp only [leB, Bool.or_eq_true, decide_eq_true_eq]; exact List.le_total a b) l
theorem freeL_of {t : T} {E : DU} {left : Lit → Bool} {ss : List (List UInt8)} (hC : Collected E left ss) (hl : ∀ kl, left kl = false) (hF : Fnd E (fun x => t.fv (fun _ => 0) x)) : FreeL t (ss.mergeSort leB) := by
  have hp := List.mergeSort_perm ss leB
  refine ⟨hp.nodup_iff.2 hC.1, fun x => ?_, sorted_leB ss⟩
  rw [hp.mem_iff, hC.2 x, hF x, hl]
  simp
set_option maxRecDepth 100000 in
set_option maxHeartbeats 4000000 in
theorem free_t (t : T) (w : World) (R : Nat → Prop) (v : Value) (hN : t.bulk ≤ 1048576) (h : T.In w R t v) :
    Calls Tryz.prog 29 #[v] w fun e w' => ∃ (u : Value) (L : List (List UInt8)), e = .returned u ∧ w'.ownsRow w.heap.size 9 1 u L.length (L.map encStr) ∧ FreeL t L ∧ Below w.heap.size w w' := by
  obtain ⟨i0, hi, hz0, hz1, hz2⟩ := info_parts info_str
  have hIn := h
  obtain ⟨A1, c1, A2, c2, A3, c3, rfl, _⟩ := h.form
  obtain ⟨nm, hnm⟩ : ∃ x, t.nm = x := ⟨_, rfl⟩
  obtain ⟨ng, hng⟩ : ∃ x, t.ng = x := ⟨_, rfl⟩
  obtain ⟨n1, hn1⟩ : ∃ x, t.ns.length = x := ⟨_, rfl⟩
  obtain ⟨n2, hn2⟩ : ∃ x, t.mg.length = x := ⟨_, rfl⟩
  obtain ⟨n3, hn3⟩ : ∃ x, t.ks.length = x := ⟨_, rfl⟩
  obtain ⟨kk, hkk⟩ : ∃ x, t.k = x := ⟨_, rfl⟩
  rw [hkk, hnm, hng, hn1, hn2, hn3] at hIn ⊢
  clear h hnm hng hn1 hn2 hn3 hkk
  unfold tv at hIn ⊢
  have hIn2 := in_lt t _ hIn
  obtain ⟨W, hW, ps, hbW⟩ := made_blk w #[.int .i64 kk, .string nm, .slice A1 n1 c1, .bool ng, .slice A2 n2 c2, .slice A3 n3 c3] 28
  obtain ⟨g, hg⟩ : ∃ g, g = w.heap.size := ⟨_, rfl⟩
  obtain ⟨fm, hfm⟩ : ∃ x, x = W.heap.size := ⟨_, rfl⟩
  obtain ⟨V, hV⟩ : ∃ V : World, V = (W.alloc (.map #[] 0)).alloc (.map #[] 0) := ⟨_, rfl⟩
  have hbV : Below W.heap.size W V := hV ▸ below_alloc2 W _ _
  have HFM : Hid (FM V fm 0 (.map [])) := Lib.hid (by rw [hV, hfm]; exact (World.ownsMap_made W _ _ _).alloc _)
  have HBM : Hid (BM V (fm + 1) 0 (.map [])) := Lib.hid (by
    rw [hV, hfm]
    have := World.ownsMap_made (H := Unit) (W.alloc (.map #[] 0)) Tryz.prog 9 (plainElem Tryz.prog 3)
    simpa using this)
  have HIV := Lib.hid ((hIn2.below hbW).below hbV)
  have HBV := Lib.hid (below_on hbW hbV)
  have hwf : w.heap.size ≤ fm := by have := hbW.size; omega
  have hfV : fm ≤ V.heap.size := by have := hbV.size; omega
  rw [← hg] at ps
  have psV := ps.below hbV
  have hRB : ∀ g, (R g ∧ g < w.heap.size) → g < fm := fun g h => by have := h.2; omega
  have HCE := Lib.hid (free_all 1048576 t V _ _ fm (fm + 1) fm 0 0 _ _ (fun _ => 0) (fun _ => false) hN (Nat.le_refl _) HIV.out hRB (by omega) (Nat.le_refl _) (by omega) hfV HBM.out HFM.out (fun x => by simp [DataW.atKey]) (fun x => rfl) (fun x => ⟨Int.le_refl _, by omega⟩) (by omega) (by omega))
  have hmm := @run_makeMap Tryz.prog
  clear hIn hIn2 hbW hbV hRB
  go_enter Tryz.func29, Tryz.ntmps29
  go_upto_region 1 with (fail)
  rw [← hW, ← hg]
  clear hW hg
  go_upto_region 3 with (fail)
  rw [← hV, ← hfm]
  clear hV hfm hmm
  obtain ⟨x0, x1, x2, x3, x4, x5⟩ := psV.six
  go_upto_region 5 with (go_at_call 60; refine HCE.out.mono ?_; rintro e w4 ⟨rfl, D, E, -, hF4, -, hFd, hb4, -⟩)
  have hsE : Maps.size E ≤ t.bulk := by have := hF4.size_le; omega
  have HBW4 := Lib.hid (HBV.out.trans (hb4.mono hwf))
  have HFD : Hid (Fnd E (fun x => t.fv (fun _ => 0) x)) := Lib.hid (fun x => by rw [hFd x]; rfl)
  have hfl := hF4.lt
  obtain ⟨b0, hb0⟩ : ∃ x, x = w4.heap.size := ⟨_, rfl⟩
  have hwb : w.heap.size ≤ b0 := by have := HBW4.out.size; omega
  obtain ⟨m, hm⟩ : ∃ m, m = 0 + t.bulk := ⟨_, rfl⟩
  rw [← hm] at hF4
  clear hFd hb4 hm x0 x1 x2 x3 x4 x5 ps psV HCE HFM HBM HIV HBV
  go_wp2_with (at_range; refine wpList_range_own _ rfl _ 90 rfl 9 130 lawS Tryz.underlying90 unitElem fm m E rfl hF4 ?_; intro w0 hrg0 hg0 hs0)
  rw [← hb0] at hrg0 ⊢
  rw [← hb0] at hfl
  have hb04 : b0 ≤ w4.heap.size := by omega
  clear hs0 hb0
  go_frame
  go_loopw [5] (fun v wr => ∃ (left : Lit → Bool) (cnt : Nat) (ss : List (List UInt8)), wr.ranges Tryz.prog 9 unitElem fm b0 m E left cnt ∧ ss.length + cnt ≤ Maps.size E ∧
      wr.ownsRow b0 9 1 v ss.length (ss.map encStr) ∧ Hid (Collected E left ss) ∧ Hid (Below b0 w4 wr)) (fun _ wr => wr.rangeLeft fm b0)
  case atStart =>
    exact ⟨_, _, [], hrg0, by simp, World.ownsRow_nil _ _ _ _, Lib.hid (Collected.start E), Lib.hid ((Below.refl _ _).grown hg0 (by omega) (fun j hj => by cases hj))⟩
  case round =>
    obtain ⟨left, cnt, ss, hrg, hcs, hrow, hC, hbv⟩ := hrel
    have hnx := hbv.out
    have hb0r : b0 ≤ wr.heap.size := by have := hnx.size; omega
    clear hrg0 hg0
    go_wp2_with (at_next; refine wpList_next_ranges _ rfl _ rfl 9 lawS unitElem encStr (fun _ : Unit => Value.agg #[]) (fun key kl hk => by obtain ⟨x, hx, _⟩ := Maps.keyOf_str Tryz.underlying9 hk; exact ⟨x, hx⟩) (fun v y hv => by obtain ⟨rfl, _⟩ := unitElem_inv hv; exact ⟨(), rfl⟩) fm b0 m _ _ _ rfl hrg ?_ ?_)
    · intro hc0 hl0
      have hfr := freeL_of hC.out hl0 HFD.out
      have HL := Lib.hid hfr
      have HNX := Lib.hid hnx
      clear hl0 hfr hC hbv hnx
      rcases hrow.2 with ⟨rfl, hnil⟩ | ⟨g2, cap, cur, rfl, hbase, hb, h1, h2, h3, h4⟩
      · have hss : ss = [] := List.length_eq_zero_iff.1 hnil
        subst hss
        go_wp2_with (go_at_call 61; refine (Tryz.slices_Sort_string_none none 0 _).mono ?_; rintro e w' ⟨rfl, rfl⟩)
        go_ret
        exact ⟨_, [], rfl, World.ownsRow_nil _ _ _ _, by simpa using HL.out, HBW4.out.trans (HNX.out.mono hwb)⟩
      · have hH : Holds encStr wr g2 0 ss.toArray := holds_of_block hb (by simpa using h4)
        have hgl : g2 < wr.heap.size := (Array.getElem?_eq_some_iff.1 hb).1
        have HCS := Lib.hid (Tryz.slices_Sort_string g2 0 cap ss wr hH hgl (by omega))
        have HBB := Lib.hid hb
        have HH3 := Lib.hid h3
        have HH4 := Lib.hid h4
        have HRW := Lib.hid hrow
        have HRG := Lib.hid hrg
        clear hH hb h3 h4 hrow hrg
        go_wp2_with (go_at_call 61; refine HCS.out.mono ?_; rintro e w' ⟨rfl, nn, os, rfl⟩)
        go_ret
        refine ⟨_, ss.mergeSort leB, rfl, ?_, HL.out, HBW4.out.trans ((HNX.out.grown (grownBy_sorted _) (by omega) (fun j hj => by cases hj; exact hbase)).mono hwb)⟩
        have := ownsRow_sorted (n := nn) (os := os) (ts := ss.mergeSort leB) (by simp) (Nat.le_trans hwb hbase) HBB.out h1 h2 HH3.out
        rw [List.length_mergeSort]
        exact this
    · intro x kl yd yp w2 cnt2 hkey hlk hv hat hrg2 hlt hg2 hs2 hen
      obtain ⟨x', ex, rfl, _⟩ := Maps.keyOf_str Tryz.underlying9 hkey
      obtain rfl : x = x' := encStr_inj ex
      have hrow2 := hrow.kept hg2 (Or.inr (row_ne_iter hrow hrg).symm)
      have hb2 : b0 ≤ w2.heap.size := by omega
      clear hs2
      have HC := Lib.hid (hC.out.step hlk hat)
      have HNX := Lib.hid hnx
      have hcl : ss.length + 1 ≤ 1048576 := by omega
      go_wp2_with (at_builtin; refine wpList_append_own _ rfl _ _ 22 rfl b0 9 i0 (.string ByteArray.empty) 1 16 Tryz.underlying22 hi hz0 hz1 hz2 rfl (by decide) _ _ _ rfl (hrow2.alloc _) ⟨w2.heap.size, 0, none⟩ 1 1 [encStr x] rfl rfl (cell_one_new _ _ _) (by simp [Value.oneCell', encStr]) (by unfold maxLen; omega) (by omega) (by simp; omega) ?_; intro v' w3 hown' hg3 hnil3; go_frame)
      have hrg3 := (hrg2.alloc _).kept hg3 (row_ne_low hrow2 hfl) (row_ne_iter hrow2 hrg2)
      go_roundw
      case rel =>
        refine ⟨_, cnt2, ss ++ [x], hrg3, by simp; omega, by simpa using hown', HC, Lib.hid ?_⟩
        exact ((HNX.out.grown hg2 hb0r (fun j hj => by cases hj; exact Nat.le_refl _)).alloc hb2 _).grown hg3 (by simp; omega) (fun j hj => (hrow2.lt j hj).1)
      case measure => rw [hrg3.left_eq, hrg.left_eq]; exact hlt
end Go.Proofs.YthiadenmljbdaaaGreatDoor
end

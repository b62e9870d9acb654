/-
  q: the parts WRow WBodyQ.
-/
import Derived.Test.YthiadenmljbdaaaGreatDoorB26q
namespace Go.Proofs.YthiadenmljbdaaaGreatDoor
section
open Go.RowKit
open Go.Shelf
attribute [local go_sem] Oper.semAt_some
def rowB (wd : ByteArray) (o : Nat) (last : Bool) (ks : List T) : List UInt8 := P.bytes (P.rowR wd o last (P.parts ks))
theorem rowB_nil (wd : ByteArray) (o : Nat) (last : Bool) : rowB wd o last [] = [] := rfl
theorem rowB_cons (wd : ByteArray) (o : Nat) (last : Bool) (k : T) (ks : List T) : rowB wd o last (k :: ks) = (32 :: (wd.data.toList ++ [32])) ++ (formB o (last && ks.isEmpty) k ++ rowB wd o last ks) := by
 have e : (P.parts ks).isEmpty = ks.isEmpty := by
  cases ks with
  | nil => rfl
  | cons a b => rw [P.parts_cons]; rfl
 unfold rowB
 rw [P.parts_cons, P.rowR, P.bytes_cons, P.bytes_cons, P.bytes_cons, P.bytes_append, e]
 simp [P.itB, formB]
def restB (wd : ByteArray) (f o : Nat) (last : Bool) (l : List T) (i : Nat) : List UInt8 := if i = 0 then formB f false (l.getD 0 t0) ++ rowB wd o last l.tail else rowB wd o last (l.drop i)
theorem restB_0 (wd : ByteArray) (f o : Nat) (last : Bool) (l : List T) (h : 0 < l.length) : restB wd f o last l 0 = formB f false (l.getD 0 t0) ++ restB wd f o last l 1 := by
 unfold restB
 rw [if_pos rfl, if_neg (by decide)]
 cases l with
 | nil => simp at h
 | cons a b => rfl
theorem restB_s (wd : ByteArray) (f o : Nat) (last : Bool) (l : List T) (i : Nat) (h0 : 0 < i) (h : i < l.length) : restB wd f o last l i = (32 :: (wd.data.toList ++ [32])) ++ (formB o (last && decide (i + 1 = l.length)) (l.getD i t0) ++ restB wd f o last l (i + 1)) := by
 unfold restB
 rw [if_neg (by omega), if_neg (by omega)]
 have e : l.drop i = l.getD i t0 :: l.drop (i + 1) := by
  rw [List.drop_eq_getElem_cons h]
  simp [List.getD, h]
 have e2 : (l.drop (i + 1)).isEmpty = decide (i + 1 = l.length) := by
  rw [Bool.eq_iff_iff, List.isEmpty_iff, List.drop_eq_nil_iff, decide_eq_true_eq]
  omega
 rw [e, rowB_cons, e2]
theorem restB_n (wd : ByteArray) (f o : Nat) (last : Bool) (l : List T) (h : 0 < l.length) : restB wd f o last l l.length = [] := by
 unfold restB
 rw [if_neg (by omega), List.drop_length]
 rfl
theorem kid_form {w : World} {R : Nat → Prop} {u : T} {v0 v1 v2 v3 v4 v5 : Value} (h : T.In w R u (.agg #[v0, v1, v2, v3, v4, v5])) : ∃ B1 d1 m1 B2 d2 m2 B3 d3 m3 kk nm ng, v0 = .int .i64 kk ∧ v1 = .string nm ∧ v2 = .slice B1 m1 d1 ∧ v3 = .bool ng ∧ v4 = .slice B2 m2 d2 ∧ v5 = .slice B3 m3 d3 := by
 obtain ⟨B1, d1, B2, d2, B3, d3, e', _⟩ := h.form
 injection e' with e'
 injection e' with e'
 simp only [List.cons.injEq, and_true] at e'
 obtain ⟨h0, h1, h2, h3, h4, h5⟩ := e'
 exact ⟨B1, d1, _, B2, d2, _, B3, d3, _, _, _, _, h0, h1, h2, h3, h4, h5⟩
theorem in_formR {w : World} {R : Nat → Prop} {t : T} {v : Value} (h : T.In w R t v) : ∃ A1 c1 A2 c2 A3 c3, v = tv t.k t.nm A1 t.ns.length c1 t.ng A2 t.mg.length c2 A3 t.ks.length c3 ∧ StrL w R A1 c1 t.ns ∧ SlR w R A2 c2 t.mg ∧ t.ks.length ≤ c3 ∧ (0 < t.ks.length → ∃ b o, A3 = some ⟨b, o, none⟩ ∧ R b ∧ T.Ins w R b o t.ks) := by
 cases t
 rw [T.In] at h
 exact h
set_option maxHeartbeats 3200000 in
set_option maxRecDepth 100000 in
theorem row_w (t : T) (l : List T) (hl : t.ks = l) (hf : ∀ k ∈ l, FormW k) (h0 : 0 < l.length) (hbk : l.length ≤ 1048576) (wd word : ByteArray) (hword : word.data.toList = 32 :: (wd.data.toList ++ [32])) (f o : Nat) (hf5 : f ≤ 5) (ho5 : o ≤ 5) (last : Bool)
    (B b : Nat) (bs : List Value) (w : World) (R : Nat → Prop) (v : Value) (h : T.In w R t v) (hR : ∀ g, R g → g < B) (hIs : Lib.IsBuilder TW TB B b bs w)
    (TOT : List UInt8) (hT : restB wd f o last l 0 = TOT) (hlen : bs.length + TOT.length ≤ 140737488355328) (hBw : B ≤ w.heap.size) :
    Calls Tryz.prog 77 #[.pointer (some ⟨b, 0, none⟩), v, .string word, .int .i64 (f : Nat), .int .i64 (o : Nat), .bool last] w fun e w' => e = .returned (.tuple #[]) ∧ (Lib.BuilderAt TW TB B b (.pointer (some ⟨b, 0, none⟩)) (bs ++ Lib.byteCells TOT) w' ∧ Below B w w' ∧ Lib.OthersKept TB (some b) w w') := by
  obtain ⟨A1, c1, A2, c2, A3, c3, rfl, -, -, -, hkd⟩ := in_formR h
  rw [hl] at hkd ⊢
  obtain ⟨kb, ko, rfl, hRk, hI⟩ := hkd h0
  have hkB := hR kb hRk
  obtain ⟨nm, hnm⟩ : ∃ x, t.nm = x := ⟨_, rfl⟩
  obtain ⟨ng, hng⟩ : ∃ x, t.ng = x := ⟨_, rfl⟩
  obtain ⟨n1, hn1⟩ : ∃ x, t.ns.length = x := ⟨_, rfl⟩
  obtain ⟨n2, hn2⟩ : ∃ x, t.mg.length = x := ⟨_, rfl⟩
  obtain ⟨kk, hkk⟩ : ∃ x, t.k = x := ⟨_, rfl⟩
  rw [hnm, hng, hn1, hn2, hkk]
  clear hkd hnm hng hn1 hn2 hkk hRk h hl t
  have hwz : word.size = wd.size + 2 := by
   have : word.data.toList.length = word.size := Array.length_toList
   have h2 : wd.data.toList.length = wd.size := Array.length_toList
   rw [hword] at this
   simp only [List.length_cons, List.length_append, List.length_nil] at this
   omega
  have HWS : Hid (Lib.strCells word = Lib.byteCells (32 :: (wd.data.toList ++ [32]))) := Lib.hid (by rw [Lib.strCells_eq, hword])
  have hend := restB_n wd f o last l h0
  obtain ⟨n, hn⟩ : ∃ n, l.length = n := ⟨_, rfl⟩
  rw [hn] at h0 hbk hend ⊢
  obtain ⟨V, hV⟩ : ∃ V : World, V = w := ⟨_, rfl⟩
  have HI := Lib.hid hI
  have HR := Lib.hid hR
  have HF := Lib.hid hf
  have HN := Lib.hid hn
  have HIS := Lib.hid hIs
  have HT := Lib.hid hT
  have HE := Lib.hid hend
  have HWZ := Lib.hid hwz
  clear hI hR hf hn hT hend hwz
  have hbW := below_alloc1 w (.cells #[.int .i64 kk, .string nm, .slice A1 n1 c1, .bool ng, .slice A2 n2 c2, .slice (some ⟨kb, ko, none⟩) n c3] 28)
  have HB0 : Hid (Lib.IsBuilder TW TB B b bs (w.alloc (.cells #[.int .i64 kk, .string nm, .slice A1 n1 c1, .bool ng, .slice A2 n2 c2, .slice (some ⟨kb, ko, none⟩) n c3] 28))) := Lib.hid (isB_alloc hIs _)
  have HK0 := Lib.hid ((Lib.OthersKept.refl TB (some b) w).alloc (.cells #[.int .i64 kk, .string nm, .slice A1 n1 c1, .bool ng, .slice A2 n2 c2, .slice (some ⟨kb, ko, none⟩) n c3] 28))
  have HBW := Lib.hid (hbW.mono hBw)
  clear hIs hbW
  unfold tv
  cases last
  ·
   go_enter Tryz.func77, Tryz.ntmps77
   go_wp2_with fail
   go_loopg [22] (n + 1) (fun gk v22 wr => ∃ (i : Nat) (wrt : List UInt8), gk + i = n + 1 ∧ i ≤ n ∧ v22 = .int .i64 (i : Nat) ∧ wrt ++ restB wd f o false l i = TOT ∧ Lib.IsBuilder TW TB B b (bs ++ Lib.byteCells wrt) wr ∧ (0 < i → Lib.BuilderAt TW TB B b (.pointer (some ⟨b, 0, none⟩)) (bs ++ Lib.byteCells wrt) wr) ∧ Below B w wr ∧ Lib.OthersKept TB (some b) w wr)
   case atStart => exact ⟨0, [], by omega, Nat.zero_le _, rfl, HT.out, by simpa [Lib.byteCells] using HB0.out, fun h => by omega, HBW.out, HK0.out⟩
   case round =>
    obtain ⟨i, wrt, hi, hin, rfl, hw, hIs, hat, hbw, hok⟩ := hrel
    by_cases hlt : i < n
    ·
     obtain ⟨v0, v1, v2, v3, v4, v5, h6, hkI⟩ := T.Ins.get _ _ _ HI.out (by rw [HN.out]; exact hlt)
     have hfk := HF.out (l.getD i t0) (by rw [List.getD_eq_getElem?_getD, List.getElem?_eq_getElem (by rw [HN.out]; exact hlt)]; exact List.getElem_mem _)
     obtain ⟨k, hk⟩ : ∃ k, l.getD i t0 = k := ⟨_, rfl⟩
     rw [hk] at hkI hfk
     obtain ⟨B1, d1, m1, B2, d2v, m2, B3, d3, m3, kkk, nmk, ngk, rfl, rfl, rfl, rfl, rfl, rfl⟩ := kid_form hkI
     have hBr := Nat.le_trans hBw hbw.size
     obtain ⟨e0, e1, e2, e3, e4, e5⟩ := h6.keep (fun p v hp hc => (hbw.cell (by rw [hp]; exact hkB)).trans hc)
     obtain ⟨W, hW, ps, hbW⟩ := made_blk wr #[.int .i64 kkk, .string nmk, .slice B1 m1 d1, .bool ngk, .slice B2 m2 d2v, .slice B3 m3 d3] 28
     obtain ⟨g, hg⟩ : ∃ g, g = wr.heap.size := ⟨_, rfl⟩
     have HB : Hid (Lib.IsBuilder TW TB B b (bs ++ Lib.byteCells wrt) W) := Lib.hid (hW ▸ isB_alloc hIs _)
     have HK : Hid (Lib.OthersKept TB (some b) w W) := Lib.hid (hW ▸ hok.alloc _)
     have hBW : B ≤ W.heap.size := Nat.le_trans hBr hbW.size
     have HBW := Lib.hid (hbw.trans (hbW.mono hBr))
     have HKI := Lib.hid (hkI.under HR.out HBW.out)
     have HFK := Lib.hid hfk
     have HWT := Lib.hid hw
     have HIX := Lib.hid hk
     rw [← hg] at ps
     have hgb : g ≠ b := by have := below_IsB hIs; omega
     have hi0 : (0 : Int) ≤ i := by omega
     have hi1 : (i : Int) < n := by omega
     clear hbW hIs hbw hok hat h6 hkI hfk hw hk hBr
     have HW := Lib.hid hW
     have HG := Lib.hid hg
     clear hW hg
     rcases Nat.eq_zero_or_pos i with hz | hz
     ·
      subst hz
      simp only [Nat.zero_mul, Nat.add_zero] at e0 e1 e2 e3 e4 e5
      have hre := restB_0 wd f o false l (by rw [HN.out]; exact hlt)
      rw [HIX.out] at hre
      have hlw := HWT.out
      rw [hre] at hlw
      have hll := congrArg List.length hlw
      simp only [List.length_append] at hll
      have hl1 : (bs ++ Lib.byteCells wrt).length + (formB f false k).length ≤ 140737488355328 := by rw [List.length_append, Lib.byteCells_length]; omega
      have HLW := Lib.hid hlw
      clear hre hlw hll
      go_upto_region 8 with (fail)
      rw [← HW.out, ← HG.out]
      obtain ⟨x0, x1, x2, x3, x4, x5⟩ := ps.six
      clear e0 e1 e2 e3 e4 e5
      go_wp2_with (go_at_call 43; refine (HFK.out B b _ f false _ R _ hf5 HKI.out HR.out HB.out hl1 hBW).mono ?_; rintro e w3 ⟨rfl, h3, hb3, hk3⟩)
      have e4 : bs ++ Lib.byteCells (wrt ++ formB f false k) = bs ++ Lib.byteCells wrt ++ Lib.byteCells (formB f false k) := by rw [Lib.byteCells_append, List.append_assoc]
      rw [← e4] at h3
      go_roundg n
      case measure => omega
      case rel => exact ⟨1, wrt ++ formB f false k, by omega, by omega, rfl, by rw [List.append_assoc]; exact HLW.out, .inr h3, fun _ => h3, HBW.out.trans hb3, HK.out.trans hk3⟩
     ·
      have d0 : decide ((i : Int) > 0) = true := by simp; omega
      have d00 : decide ((0 : Int) < (i : Int)) = true := by simp; omega
      have hre := restB_s wd f o false l i hz (by rw [HN.out]; exact hlt)
      rw [HIX.out, HN.out, Bool.false_and] at hre
      skip
      have hlw := HWT.out
      rw [hre] at hlw
      have hll := congrArg List.length hlw
      simp only [List.length_append, List.length_cons, List.length_nil] at hll
      have hdl : wd.data.toList.length = wd.size := Array.length_toList
      have hwz2 := HWZ.out
      have hl1 : (bs ++ Lib.byteCells wrt).length + word.size ≤ 140737488355328 := by rw [List.length_append, Lib.byteCells_length]; omega
      have hl2 : ((bs ++ Lib.byteCells wrt) ++ Lib.strCells word).length + (formB o false k).length ≤ 140737488355328 := by rw [List.length_append, List.length_append, Lib.byteCells_length, Lib.strCells_length]; omega
      have HLW := Lib.hid hlw
      clear hre hlw hll hdl hwz2
      go_upto_region 6 with (fail)
      rw [← HW.out, ← HG.out]
      clear e0 e1 e2 e3 e4 e5
      go_upto_region 7 with (go_at_call 78; refine (wstr_w B b (bs ++ Lib.byteCells wrt) word _ HB.out hl1 hBW).mono ?_; rintro e w2 ⟨rfl, h2, hb2, hk2⟩)
      have pg : Blk w2 g 28 #[.int .i64 kkk, .string nmk, .slice B1 m1 d1, .bool ngk, .slice B2 m2 d2v, .slice B3 m3 d3] := hk2 g _ ps (by simpa using hgb) (fun c fz e => by injection e with _ e _; exact absurd e (by decide))
      have HBW2 := Lib.hid (HBW.out.trans hb2)
      have HK2 := Lib.hid (HK.out.trans hk2)
      have hB2 : B ≤ w2.heap.size := Nat.le_trans hBW hb2.size
      have HKI2 := Lib.hid (HKI.out.under HR.out hb2)
      have H2 := Lib.hid h2
      clear h2 hb2 hk2 ps
      obtain ⟨x0, x1, x2, x3, x4, x5⟩ := pg.six
      go_wp2_with (go_at_call 43; refine (HFK.out B b _ o false _ R _ ho5 HKI2.out HR.out (.inr H2.out) hl2 hB2).mono ?_; rintro e w3 ⟨rfl, h3, hb3, hk3⟩)
      have e4 : bs ++ Lib.byteCells (wrt ++ ((32 :: (wd.data.toList ++ [32])) ++ formB o false k)) = bs ++ Lib.byteCells wrt ++ Lib.strCells word ++ Lib.byteCells (formB o false k) := by rw [Lib.byteCells_append, Lib.byteCells_append, ← HWS.out, List.append_assoc, List.append_assoc]
      rw [← e4] at h3
      go_roundg (n - i)
      case measure => omega
      case rel => exact ⟨i + 1, wrt ++ ((32 :: (wd.data.toList ++ [32])) ++ formB o false k), by omega, by omega, by go_num, by rw [List.append_assoc, List.append_assoc]; exact HLW.out, .inr h3, fun _ => h3, HBW2.out.trans hb3, HK2.out.trans hk3⟩
    · obtain rfl : i = n := by omega
      have hwt := hw
      rw [HE.out, List.append_nil] at hwt
      subst hwt
      have hat := hat h0
      go_wp2_with fail
      go_end0
      exact ⟨rfl, hat, hbw, hok⟩
  ·
   go_enter Tryz.func77, Tryz.ntmps77
   go_wp2_with fail
   go_loopg [22] (n + 1) (fun gk v22 wr => ∃ (i : Nat) (wrt : List UInt8), gk + i = n + 1 ∧ i ≤ n ∧ v22 = .int .i64 (i : Nat) ∧ wrt ++ restB wd f o true l i = TOT ∧ Lib.IsBuilder TW TB B b (bs ++ Lib.byteCells wrt) wr ∧ (0 < i → Lib.BuilderAt TW TB B b (.pointer (some ⟨b, 0, none⟩)) (bs ++ Lib.byteCells wrt) wr) ∧ Below B w wr ∧ Lib.OthersKept TB (some b) w wr)
   case atStart => exact ⟨0, [], by omega, Nat.zero_le _, rfl, HT.out, by simpa [Lib.byteCells] using HB0.out, fun h => by omega, HBW.out, HK0.out⟩
   case round =>
    obtain ⟨i, wrt, hi, hin, rfl, hw, hIs, hat, hbw, hok⟩ := hrel
    by_cases hlt : i < n
    ·
     obtain ⟨v0, v1, v2, v3, v4, v5, h6, hkI⟩ := T.Ins.get _ _ _ HI.out (by rw [HN.out]; exact hlt)
     have hfk := HF.out (l.getD i t0) (by rw [List.getD_eq_getElem?_getD, List.getElem?_eq_getElem (by rw [HN.out]; exact hlt)]; exact List.getElem_mem _)
     obtain ⟨k, hk⟩ : ∃ k, l.getD i t0 = k := ⟨_, rfl⟩
     rw [hk] at hkI hfk
     obtain ⟨B1, d1, m1, B2, d2v, m2, B3, d3, m3, kkk, nmk, ngk, rfl, rfl, rfl, rfl, rfl, rfl⟩ := kid_form hkI
     have hBr := Nat.le_trans hBw hbw.size
     obtain ⟨e0, e1, e2, e3, e4, e5⟩ := h6.keep (fun p v hp hc => (hbw.cell (by rw [hp]; exact hkB)).trans hc)
     obtain ⟨W, hW, ps, hbW⟩ := made_blk wr #[.int .i64 kkk, .string nmk, .slice B1 m1 d1, .bool ngk, .slice B2 m2 d2v, .slice B3 m3 d3] 28
     obtain ⟨g, hg⟩ : ∃ g, g = wr.heap.size := ⟨_, rfl⟩
     have HB : Hid (Lib.IsBuilder TW TB B b (bs ++ Lib.byteCells wrt) W) := Lib.hid (hW ▸ isB_alloc hIs _)
     have HK : Hid (Lib.OthersKept TB (some b) w W) := Lib.hid (hW ▸ hok.alloc _)
     have hBW : B ≤ W.heap.size := Nat.le_trans hBr hbW.size
     have HBW := Lib.hid (hbw.trans (hbW.mono hBr))
     have HKI := Lib.hid (hkI.under HR.out HBW.out)
     have HFK := Lib.hid hfk
     have HWT := Lib.hid hw
     have HIX := Lib.hid hk
     rw [← hg] at ps
     have hgb : g ≠ b := by have := below_IsB hIs; omega
     have hi0 : (0 : Int) ≤ i := by omega
     have hi1 : (i : Int) < n := by omega
     clear hbW hIs hbw hok hat h6 hkI hfk hw hk hBr
     have HW := Lib.hid hW
     have HG := Lib.hid hg
     clear hW hg
     rcases Nat.eq_zero_or_pos i with hz | hz
     ·
      subst hz
      simp only [Nat.zero_mul, Nat.add_zero] at e0 e1 e2 e3 e4 e5
      have hre := restB_0 wd f o true l (by rw [HN.out]; exact hlt)
      rw [HIX.out] at hre
      have hlw := HWT.out
      rw [hre] at hlw
      have hll := congrArg List.length hlw
      simp only [List.length_append] at hll
      have hl1 : (bs ++ Lib.byteCells wrt).length + (formB f false k).length ≤ 140737488355328 := by rw [List.length_append, Lib.byteCells_length]; omega
      have HLW := Lib.hid hlw
      clear hre hlw hll
      go_upto_region 8 with (fail)
      rw [← HW.out, ← HG.out]
      obtain ⟨x0, x1, x2, x3, x4, x5⟩ := ps.six
      clear e0 e1 e2 e3 e4 e5
      go_wp2_with (go_at_call 43; refine (HFK.out B b _ f false _ R _ hf5 HKI.out HR.out HB.out hl1 hBW).mono ?_; rintro e w3 ⟨rfl, h3, hb3, hk3⟩)
      have e4 : bs ++ Lib.byteCells (wrt ++ formB f false k) = bs ++ Lib.byteCells wrt ++ Lib.byteCells (formB f false k) := by rw [Lib.byteCells_append, List.append_assoc]
      rw [← e4] at h3
      go_roundg n
      case measure => omega
      case rel => exact ⟨1, wrt ++ formB f false k, by omega, by omega, rfl, by rw [List.append_assoc]; exact HLW.out, .inr h3, fun _ => h3, HBW.out.trans hb3, HK.out.trans hk3⟩
     ·
      have d0 : decide ((i : Int) > 0) = true := by simp; omega
      have d00 : decide ((0 : Int) < (i : Int)) = true := by simp; omega
      have hre := restB_s wd f o true l i hz (by rw [HN.out]; exact hlt)
      rw [HIX.out, HN.out, Bool.true_and] at hre
      obtain ⟨q, hq⟩ : ∃ q, decide (i + 1 = n) = q := ⟨_, rfl⟩
      rw [hq] at hre
      have d2 : ((i : Int) == (n : Int) - 1) = q := by rw [← hq, Bool.eq_iff_iff, beq_iff_eq, decide_eq_true_eq]; omega
      clear hq
      have hlw := HWT.out
      rw [hre] at hlw
      have hll := congrArg List.length hlw
      simp only [List.length_append, List.length_cons, List.length_nil] at hll
      have hdl : wd.data.toList.length = wd.size := Array.length_toList
      have hwz2 := HWZ.out
      have hl1 : (bs ++ Lib.byteCells wrt).length + word.size ≤ 140737488355328 := by rw [List.length_append, Lib.byteCells_length]; omega
      have hl2 : ((bs ++ Lib.byteCells wrt) ++ Lib.strCells word).length + (formB o q k).length ≤ 140737488355328 := by rw [List.length_append, List.length_append, Lib.byteCells_length, Lib.strCells_length]; omega
      have HLW := Lib.hid hlw
      clear hre hlw hll hdl hwz2
      go_upto_region 6 with (fail)
      rw [← HW.out, ← HG.out]
      clear e0 e1 e2 e3 e4 e5
      go_upto_region 7 with (go_at_call 78; refine (wstr_w B b (bs ++ Lib.byteCells wrt) word _ HB.out hl1 hBW).mono ?_; rintro e w2 ⟨rfl, h2, hb2, hk2⟩)
      have pg : Blk w2 g 28 #[.int .i64 kkk, .string nmk, .slice B1 m1 d1, .bool ngk, .slice B2 m2 d2v, .slice B3 m3 d3] := hk2 g _ ps (by simpa using hgb) (fun c fz e => by injection e with _ e _; exact absurd e (by decide))
      have HBW2 := Lib.hid (HBW.out.trans hb2)
      have HK2 := Lib.hid (HK.out.trans hk2)
      have hB2 : B ≤ w2.heap.size := Nat.le_trans hBW hb2.size
      have HKI2 := Lib.hid (HKI.out.under HR.out hb2)
      have H2 := Lib.hid h2
      clear h2 hb2 hk2 ps
      obtain ⟨x0, x1, x2, x3, x4, x5⟩ := pg.six
      go_wp2_with (go_at_call 43; refine (HFK.out B b _ o q _ R _ ho5 HKI2.out HR.out (.inr H2.out) hl2 hB2).mono ?_; rintro e w3 ⟨rfl, h3, hb3, hk3⟩)
      have e4 : bs ++ Lib.byteCells (wrt ++ ((32 :: (wd.data.toList ++ [32])) ++ formB o q k)) = bs ++ Lib.byteCells wrt ++ Lib.strCells word ++ Lib.byteCells (formB o q k) := by rw [Lib.byteCells_append, Lib.byteCells_append, ← HWS.out, List.append_assoc, List.append_assoc]
      rw [← e4] at h3
      go_roundg (n - i)
      case measure => omega
      case rel => exact ⟨i + 1, wrt ++ ((32 :: (wd.data.toList ++ [32])) ++ formB o q k), by omega, by omega, by go_num, by rw [List.append_assoc, List.append_assoc]; exact HLW.out, .inr h3, fun _ => h3, HBW2.out.trans hb3, HK2.out.trans hk3⟩
    · obtain rfl : i = n := by omega
      have hwt := hw
      rw [HE.out, List.append_nil] at hwt
      subst hwt
      have hat := hat h0
      go_wp2_with fail
      go_end0
      exact ⟨rfl, hat, hbw, hok⟩
end
section
open Go.RowKit
open Go.Shelf
attribute [local go_sem] Oper.semAt_some
def joinB (ns : List ByteArray) : List UInt8 := Lib.join (ns.map (·.data.toList)) [32]
theorem bytes_names (s : ByteArray) (ns : List ByteArray) (l : List P.It) : P.bytes (P.namesIt (s :: ns) ++ l) = joinB (s :: ns) ++ (32 :: P.bytes l) := by
 induction ns generalizing s with
 | nil => simp [P.namesIt, P.bytes, P.itB, joinB, Lib.join]
 | cons a r ih =>
  have h1 : P.namesIt (s :: a :: r) ++ l = P.Nm s :: none :: (P.namesIt (a :: r) ++ l) := rfl
  rw [h1, P.bytes_cons, P.bytes_cons, ih]
  simp [joinB, Lib.join, P.itB]
theorem join_w (w : World) (R : Nat → Prop) (A : Option Addr) (c : Nat) (ns : List ByteArray) (h : StrL w R A c ns) (h0 : 0 < ns.length) (hn : ns.length ≤ 1048576) (hlen : (joinB ns).length ≤ 140737488355328) :
    Calls Tryz.prog 79 #[.slice A ns.length c, .string ⟨#[32]⟩] w fun e w' => e = .returned (.string ⟨(joinB ns).toArray⟩) ∧ Below w.heap.size w w' := by
  obtain ⟨hcap, hc⟩ := h
  obtain ⟨b, o, rfl, _, hcs⟩ := hc h0
  refine Tryz.strings_Join b o c ns ⟨#[32]⟩ w (fun j x hx => ?_) (World.block_lt_of_cell? w _ (hcs 0 h0)) (by omega) hcap hlen
  have hj : j < ns.length := (List.getElem?_eq_some_iff.1 hx).1
  have := hcs j hj
  rw [List.getD_eq_getElem?_getD, hx] at this
  exact this
theorem StrL.under {w w' : World} {R : Nat → Prop} {A : Option Addr} {c : Nat} {l : List ByteArray} {B : Nat} (h : StrL w R A c l) (hR : ∀ g, R g → g < B) (hb : Below B w w') : StrL w' R A c l :=
 h.keep (fun _ _ hp hc => (hb.cell (hR _ hp)).trans hc) (fun _ h => h)
set_option maxHeartbeats 3200000 in
set_option maxRecDepth 100000 in
theorem body_21 (s : ByteArray) (ns : List ByteArray) (u : T) (hnl : (s :: ns).length ≤ 1048576) (ih : FormW u) : BodyW (.node 21 ⟨#[]⟩ (s :: ns) false [] [u]) := by
 intro B b bs least last w R v hle hnp h hR hIs hlen hBw
 obtain rfl : last = true := by
  cases last
  · exact absurd (.inr ⟨rfl, rfl⟩) hnp
  · rfl
 have e : bodyB true (.node 21 ⟨#[]⟩ (s :: ns) false [] [u]) = [115, 111, 109, 101, 32] ++ (joinB (s :: ns) ++ [32, 46, 32]) ++ formB 1 true u := by
  unfold bodyB
  rw [P.body_some, P.bytes_cons, P.bytes_cons, bytes_names, P.bytes_cons, P.bytes_cons, List.append_assoc, List.append_assoc]
  rfl
 rw [e] at hlen ⊢
 clear e
 simp only [List.length_append, List.length_cons, List.length_nil] at hlen
 obtain ⟨S, hS⟩ : ∃ S : ByteArray, S = ⟨(joinB (s :: ns)).toArray⟩ := ⟨_, rfl⟩
 have hsz : S.size = (joinB (s :: ns)).length := by rw [hS]; simp [ByteArray.size]
 have HSC : Hid (Lib.strCells (⟨#[115, 111, 109, 101, 32]⟩ ++ S ++ ⟨#[32, 46, 32]⟩) = Lib.byteCells ([115, 111, 109, 101, 32] ++ (joinB (s :: ns) ++ [32, 46, 32]))) := Lib.hid (by rw [hS]; simp [Lib.strCells, Lib.byteCells])
 have hz5 : (⟨#[115, 111, 109, 101, 32]⟩ : ByteArray).size = 5 := rfl
 have hz3 : (⟨#[32, 46, 32]⟩ : ByteArray).size = 3 := rfl
 have hsa : (⟨#[115, 111, 109, 101, 32]⟩ ++ S : ByteArray).size = 5 + S.size := by rw [ByteArray.size_append, hz5]
 have hsb : (⟨#[115, 111, 109, 101, 32]⟩ ++ S ++ ⟨#[32, 46, 32]⟩ : ByteArray).size = 5 + S.size + 3 := by rw [ByteArray.size_append, hsa, hz3]
 have hlS : bs.length + (⟨#[115, 111, 109, 101, 32]⟩ ++ S ++ ⟨#[32, 46, 32]⟩ : ByteArray).size ≤ 140737488355328 := by omega
 have hl1 : (bs ++ Lib.strCells (⟨#[115, 111, 109, 101, 32]⟩ ++ S ++ ⟨#[32, 46, 32]⟩)).length + (formB 1 true u).length ≤ 140737488355328 := by rw [List.length_append, Lib.strCells_length]; omega
 have hc2 : ¬ (9223372036854775807 < 5 + S.size) := by omega
 have hc4 : ¬ (9223372036854775807 < 5 + S.size + 3) := by omega
 have hjl : (joinB (s :: ns)).length ≤ 140737488355328 := by omega
 have HNT := Lib.hid (fun (w : World) (A : Option Addr) (c : Nat) (h : StrL w R A c (s :: ns)) => hS ▸ join_w w R A c (s :: ns) h (by simp) hnl hjl)
 have HIH := Lib.hid ih
 have HL1 := Lib.hid hl1
 have d1 : decide ((5 : Int) < (least : Int)) = false := by simp; omega
 clear hle hnp ih hsz hz5 hz3 hsa hsb hlen hS hl1 hjl
 rw [Lib.byteCells_append, ← List.append_assoc, ← HSC.out]
 rw [T.In] at h
 obtain ⟨A1, c1, A2, c2, A3, c3, rfl, hst, -, hc3, hk⟩ := h
 obtain ⟨kb, ko, rfl, hRk, hI⟩ := hk (by simp)
 rw [T.Ins] at hI
 obtain ⟨⟨v0, v1, v2, v3, v4, v5, h6, hIn⟩, -⟩ := hI
 have hkB := hR kb hRk
 have H6 := Lib.hid h6
 have HST := Lib.hid hst
 have hHR := Lib.hid hR
 clear hk h6 hst
 obtain ⟨nn, hnn⟩ : ∃ x, (s :: ns).length = x := ⟨_, rfl⟩
 unfold tv
 rw [hnn]
 have HNN := Lib.hid hnn
 clear hnn
 simp only [List.length_nil, List.length_cons, Nat.zero_add]
 go_enter Tryz.func43, Tryz.ntmps43
 go_upto_region 1 with (fail)
 obtain ⟨W, hW, ps, hbW⟩ := made_blk w #[.int .i64 21, .string ⟨#[]⟩, .slice A1 nn c1, .bool false, .slice A2 0 c2, .slice (some ⟨kb, ko, none⟩) 1 c3] 28
 obtain ⟨g, hg⟩ : ∃ g, g = w.heap.size := ⟨_, rfl⟩
 have HB : Hid (Lib.IsBuilder TW TB B b bs W) := Lib.hid (hW ▸ isB_alloc hIs _)
 have HK : Hid (Lib.OthersKept TB (some b) w W) := Lib.hid (hW ▸ (Lib.OthersKept.refl TB (some b) w).alloc _)
 have hBW : B ≤ W.heap.size := Nat.le_trans hBw hbW.size
 have HBW := Lib.hid (hbW.mono hBw)
 have HI1 := Lib.hid (hIn.under hR (hbW.mono hBw))
 have HR := Lib.hid hR
 rw [← hW, ← hg]
 rw [← hg] at ps
 have hgb : g ≠ b := by have := below_IsB hIs; omega
 clear hW hbW hIs hBw hg hIn hR
 obtain ⟨x0, x1, x2, x3, x4, x5⟩ := ps.six
 go_upto_region 20 with (go_at_call 75; refine (level_21 ⟨#[]⟩ A1 nn c1 false A2 0 c2 (some ⟨kb, ko, none⟩) 1 c3 W).mono ?_; rintro e w1 ⟨rfl, hb1⟩; have pg1 : Blk w1 g 28 #[.int .i64 21, .string ⟨#[]⟩, .slice A1 nn c1, .bool false, .slice A2 0 c2, .slice (some ⟨kb, ko, none⟩) 1 c3] := ok_below hb1 g _ ps (by simpa using hgb) (fun c fz e => by injection e with _ e _; exact absurd e (by decide)); have HB1 := Lib.hid (isB_below HB.out hb1); have HBW1 := Lib.hid (HBW.out.trans (hb1.mono hBW)); have HK1 := Lib.hid (HK.out.trans (ok_below hb1)); have hB1 : B ≤ w1.heap.size := Nat.le_trans hBW hb1.size; have HI2 := Lib.hid (HI1.out.under HR.out (hb1.mono hBW)); clear x0 x1 x2 x3 x4 x5 hb1; obtain ⟨x0, x1, x2, x3, x4, x5⟩ := pg1.six)
 have HST1 := Lib.hid (HST.out.under HR.out HBW1.out)
 refine wp_region_held_drew (S := fun w' => w'.cell? ⟨g, 2, none⟩ = some (.slice A1 nn c1)) (by kernel_rfl) (by exact x2) (fun hHeld => ?_)
 refine take_at 0 (by kernel_rfl) (by kernel_rfl) (by kernel_rfl) (fun _ _ d _ _ h => by cases d <;> exact h) ⟨_, rfl⟩ (by assumption) (fun o ho => ?_)
 simp only [zg1, zg3, zg4] at ho
 subst ho
 refine ⟨?_, ⟨by rfl, ?_⟩, ?_⟩
 rotate_left
 · intro w hSw
   (try dsimp only at hSw)
   (go_simp; try with_reducible rfl)
 (try simp only [Act.put, zs1, zs2, zs3])
 refine take_at 1 (by kernel_rfl) (by kernel_rfl) (by kernel_rfl) (fun _ _ d _ _ h => by cases d <;> exact h) ⟨_, rfl⟩ (by assumption) (fun o ho => ?_)
 simp only [zg1, zg2, zg3, zg4] at ho
 subst ho
 refine ⟨?_, ⟨by rfl, ?_⟩, ?_⟩
 rotate_left
 · intro w hSw
   (try dsimp only at hSw)
   (go_simp; try with_reducible rfl)
 (try simp only [Act.put, zs1, zs2, zs3])
 refine take_at 2 (by kernel_rfl) (by kernel_rfl) (by kernel_rfl) (fun _ _ d _ _ h => by cases d <;> exact h) ⟨_, rfl⟩ (by assumption) (fun o ho => ?_)
 simp only [zg1, zg2, zg3, zg4] at ho
 subst ho
 refine ⟨?_, ⟨by rfl, ?_⟩, ?_⟩
 rotate_left
 · intro w hSw
   (try dsimp only at hSw)
   (go_simp; try with_reducible rfl)
 (try simp only [Act.put, zs1, zs2, zs3])
 refine take_at 3 (by kernel_rfl) (by kernel_rfl) (by kernel_rfl) (fun _ _ d _ _ h => by cases d <;> exact h) ⟨_, rfl⟩ (by assumption) (fun o ho => ?_)
 simp only [zg1, zg2, zg3, zg4] at ho
 subst ho
 refine ⟨?_, ⟨by rfl, ?_⟩, ?_⟩
 rotate_left
 · intro w hSw
   (try dsimp only at hSw)
   (go_simp; try with_reducible rfl)
 (try simp only [Act.put, zs1, zs2, zs3])
 refine take_at 4 (by kernel_rfl) (by kernel_rfl) (by kernel_rfl) (fun _ _ d _ _ h => by cases d <;> exact h) ⟨_, rfl⟩ (by assumption) (fun o ho => ?_)
 simp only [zg1, zg2, zg3, zg4] at ho
 subst ho
 refine ⟨?_, ⟨by rfl, ?_⟩, ?_⟩
 rotate_left
 · intro w hSw
   (try dsimp only at hSw)
   (go_simp; try with_reducible rfl)
 (try simp only [Act.put, zs1, zs2, zs3])
 refine wpAnyH_ready (rs := [5]) (by kernel_rfl) (by simp) ?_
 refine ready_at 5 ⟨_, rfl⟩ (fun o ho K hK => ?_) AllReadyH.nil
 simp only [zg1, zg2, zg3, zg4] at ho
 subst ho
 go_simp
 go_at_call 79
 rw [← HNN.out]
 refine (HNT.out w1.drew A1 c1 (HST1.out.keep (fun _ _ _ h => h) (fun _ h => h))).mono ?_
 rw [HNN.out]
 rintro e w2 ⟨rfl, hb2⟩
 have hB2 : B ≤ w2.heap.size := Nat.le_trans hB1 hb2.size
 have HB2 := Lib.hid (isB_below (show Lib.IsBuilder TW TB B b bs w1.drew from HB1.out) hb2)
 have HBW2 := Lib.hid ((HBW1.out.drew).trans (hb2.mono hB1))
 have HK2 := Lib.hid ((HK1.out.drew).trans (ok_below hb2))
 have HI3 := Lib.hid (HI2.out.under HR.out ((Below.refl B w1).drew.trans (hb2.mono hB1)))
 have pg2 : Blk w2 g 28 #[.int .i64 21, .string ⟨#[]⟩, .slice A1 nn c1, .bool false, .slice A2 0 c2, .slice (some ⟨kb, ko, none⟩) 1 c3] := ok_below hb2 g _ pg1 (by simpa using hgb) (fun c fz e => by injection e with _ e _; exact absurd e (by decide))
 clear hb2
 refine hK.out _ _ ?_ (fun hHeld2 => ?_)
 · obtain ⟨_, _, y2, _, _, _⟩ := pg2.six
   exact y2
 replace hHeld := hHeld2
 clear hK K hHeld2
 (try simp only [zs1, zs2, zs3])
 refine take_at 6 (by kernel_rfl) (by kernel_rfl) (by kernel_rfl) (fun _ _ d _ _ h => by cases d <;> exact h) ⟨_, rfl⟩ (by assumption) (fun o ho => ?_)
 simp only [zg1, zg2, zg3, zg4] at ho
 subst ho
 refine ⟨?_, ⟨by rfl, ?_⟩, ?_⟩
 rotate_left
 · intro w hSw
   (try dsimp only at hSw)
   (go_simp; try with_reducible rfl)
 (try simp only [Act.put, zs1, zs2, zs3])
 refine take_at 7 (by kernel_rfl) (by kernel_rfl) (by kernel_rfl) (fun _ _ d _ _ h => by cases d <;> exact h) ⟨_, rfl⟩ (by assumption) (fun o ho => ?_)
 simp only [zg1, zg2, zg3, zg4] at ho
 subst ho
 refine ⟨?_, ⟨by rfl, ?_⟩, ?_⟩
 rotate_left
 · intro w hSw
   (try dsimp only at hSw)
   (go_simp; try with_reducible rfl)
 (try simp only [Act.put, zs1, zs2, zs3])
 refine wpAnyH_ready (rs := [8]) (by kernel_rfl) (by simp) ?_
 refine ready_at 8 ⟨_, rfl⟩ (fun o ho K hK => ?_) AllReadyH.nil
 simp only [zg1, zg2, zg3, zg4] at ho
 subst ho
 go_simp
 go_at_call 78
 refine (wstr_w B b bs _ w2 HB2.out ?_ hB2).mono ?_
 · exact hlS
 rintro e w3 ⟨rfl, h3, hb3, hk3⟩
 have pg3 : Blk w3 g 28 #[.int .i64 21, .string ⟨#[]⟩, .slice A1 nn c1, .bool false, .slice A2 0 c2, .slice (some ⟨kb, ko, none⟩) 1 c3] := hk3 g _ pg2 (by simpa using hgb) (fun c fz e => by injection e with _ e _; exact absurd e (by decide))
 have HBW3 := Lib.hid ((HBW2.out).trans hb3)
 have HK3 := Lib.hid ((HK2.out).trans hk3)
 have HI4 := Lib.hid (HI3.out.under HR.out hb3)
 have hB3 : B ≤ w3.heap.size := Nat.le_trans hB2 hb3.size
 have H3 := Lib.hid h3
 clear h3 hb3 hk3
 refine hK.out _ _ ?_ (fun hHeld2 => ?_)
 · obtain ⟨_, _, y2, _, _, _⟩ := pg3.six
   exact y2
 replace hHeld := hHeld2
 clear hK K hHeld2
 (try simp only [zs1, zs2, zs3])
 refine wpAnyH_done (by kernel_rfl) ?_ _
 clear hHeld x0 x1 x2 x3 x4 x5
 obtain ⟨y0, y1, y2, y3, y4, y5⟩ := H6.out.keep (fun p v hp hc => (HBW3.out.cell (by rw [hp]; exact hkB)).trans hc)
 obtain ⟨x0, x1, x2, x3, x4, x5⟩ := pg3.six
 clear ps pg1 pg2 pg3
 go_wp2_with (go_at_call 43; refine (HIH.out B b _ 1 true _ R _ (by decide) HI4.out HR.out (.inr H3.out) HL1.out hB3).mono ?_; rintro e w4 ⟨rfl, h4, hb4, hk4⟩)
 go_end0
 exact ⟨rfl, h4, HBW3.out.trans hb4, HK3.out.trans hk4⟩
set_option maxHeartbeats 3200000 in
set_option maxRecDepth 100000 in
theorem body_22 (s : ByteArray) (ns : List ByteArray) (u : T) (hnl : (s :: ns).length ≤ 1048576) (ih : FormW u) : BodyW (.node 22 ⟨#[]⟩ (s :: ns) false [] [u]) := by
 intro B b bs least last w R v hle hnp h hR hIs hlen hBw
 obtain rfl : last = true := by
  cases last
  · exact absurd (.inr ⟨rfl, rfl⟩) hnp
  · rfl
 have e : bodyB true (.node 22 ⟨#[]⟩ (s :: ns) false [] [u]) = [97, 108, 108, 32] ++ (joinB (s :: ns) ++ [32, 46, 32]) ++ formB 1 true u := by
  unfold bodyB
  rw [P.body_all, P.bytes_cons, P.bytes_cons, bytes_names, P.bytes_cons, P.bytes_cons, List.append_assoc, List.append_assoc]
  rfl
 rw [e] at hlen ⊢
 clear e
 simp only [List.length_append, List.length_cons, List.length_nil] at hlen
 obtain ⟨S, hS⟩ : ∃ S : ByteArray, S = ⟨(joinB (s :: ns)).toArray⟩ := ⟨_, rfl⟩
 have hsz : S.size = (joinB (s :: ns)).length := by rw [hS]; simp [ByteArray.size]
 have HSC : Hid (Lib.strCells (⟨#[97, 108, 108, 32]⟩ ++ S ++ ⟨#[32, 46, 32]⟩) = Lib.byteCells ([97, 108, 108, 32] ++ (joinB (s :: ns) ++ [32, 46, 32]))) := Lib.hid (by rw [hS]; simp [Lib.strCells, Lib.byteCells])
 have hz5 : (⟨#[97, 108, 108, 32]⟩ : ByteArray).size = 4 := rfl
 have hz3 : (⟨#[32, 46, 32]⟩ : ByteArray).size = 3 := rfl
 have hsa : (⟨#[97, 108, 108, 32]⟩ ++ S : ByteArray).size = 4 + S.size := by rw [ByteArray.size_append, hz5]
 have hsb : (⟨#[97, 108, 108, 32]⟩ ++ S ++ ⟨#[32, 46, 32]⟩ : ByteArray).size = 4 + S.size + 3 := by rw [ByteArray.size_append, hsa, hz3]
 have hlS : bs.length + (⟨#[97, 108, 108, 32]⟩ ++ S ++ ⟨#[32, 46, 32]⟩ : ByteArray).size ≤ 140737488355328 := by omega
 have hl1 : (bs ++ Lib.strCells (⟨#[97, 108, 108, 32]⟩ ++ S ++ ⟨#[32, 46, 32]⟩)).length + (formB 1 true u).length ≤ 140737488355328 := by rw [List.length_append, Lib.strCells_length]; omega
 have hc2 : ¬ (9223372036854775807 < 4 + S.size) := by omega
 have hc4 : ¬ (9223372036854775807 < 4 + S.size + 3) := by omega
 have hjl : (joinB (s :: ns)).length ≤ 140737488355328 := by omega
 have HNT := Lib.hid (fun (w : World) (A : Option Addr) (c : Nat) (h : StrL w R A c (s :: ns)) => hS ▸ join_w w R A c (s :: ns) h (by simp) hnl hjl)
 have HIH := Lib.hid ih
 have HL1 := Lib.hid hl1
 have d1 : decide ((5 : Int) < (least : Int)) = false := by simp; omega
 clear hle hnp ih hsz hz5 hz3 hsa hsb hlen hS hl1 hjl
 rw [Lib.byteCells_append, ← List.append_assoc, ← HSC.out]
 rw [T.In] at h
 obtain ⟨A1, c1, A2, c2, A3, c3, rfl, hst, -, hc3, hk⟩ := h
 obtain ⟨kb, ko, rfl, hRk, hI⟩ := hk (by simp)
 rw [T.Ins] at hI
 obtain ⟨⟨v0, v1, v2, v3, v4, v5, h6, hIn⟩, -⟩ := hI
 have hkB := hR kb hRk
 have H6 := Lib.hid h6
 have HST := Lib.hid hst
 have hHR := Lib.hid hR
 clear hk h6 hst
 obtain ⟨nn, hnn⟩ : ∃ x, (s :: ns).length = x := ⟨_, rfl⟩
 unfold tv
 rw [hnn]
 have HNN := Lib.hid hnn
 clear hnn
 simp only [List.length_nil, List.length_cons, Nat.zero_add]
 go_enter Tryz.func43, Tryz.ntmps43
 go_upto_region 1 with (fail)
 obtain ⟨W, hW, ps, hbW⟩ := made_blk w #[.int .i64 22, .string ⟨#[]⟩, .slice A1 nn c1, .bool false, .slice A2 0 c2, .slice (some ⟨kb, ko, none⟩) 1 c3] 28
 obtain ⟨g, hg⟩ : ∃ g, g = w.heap.size := ⟨_, rfl⟩
 have HB : Hid (Lib.IsBuilder TW TB B b bs W) := Lib.hid (hW ▸ isB_alloc hIs _)
 have HK : Hid (Lib.OthersKept TB (some b) w W) := Lib.hid (hW ▸ (Lib.OthersKept.refl TB (some b) w).alloc _)
 have hBW : B ≤ W.heap.size := Nat.le_trans hBw hbW.size
 have HBW := Lib.hid (hbW.mono hBw)
 have HI1 := Lib.hid (hIn.under hR (hbW.mono hBw))
 have HR := Lib.hid hR
 rw [← hW, ← hg]
 rw [← hg] at ps
 have hgb : g ≠ b := by have := below_IsB hIs; omega
 clear hW hbW hIs hBw hg hIn hR
 obtain ⟨x0, x1, x2, x3, x4, x5⟩ := ps.six
 go_upto_region 23 with (go_at_call 75; refine (level_22 ⟨#[]⟩ A1 nn c1 false A2 0 c2 (some ⟨kb, ko, none⟩) 1 c3 W).mono ?_; rintro e w1 ⟨rfl, hb1⟩; have pg1 : Blk w1 g 28 #[.int .i64 22, .string ⟨#[]⟩, .slice A1 nn c1, .bool false, .slice A2 0 c2, .slice (some ⟨kb, ko, none⟩) 1 c3] := ok_below hb1 g _ ps (by simpa using hgb) (fun c fz e => by injection e with _ e _; exact absurd e (by decide)); have HB1 := Lib.hid (isB_below HB.out hb1); have HBW1 := Lib.hid (HBW.out.trans (hb1.mono hBW)); have HK1 := Lib.hid (HK.out.trans (ok_below hb1)); have hB1 : B ≤ w1.heap.size := Nat.le_trans hBW hb1.size; have HI2 := Lib.hid (HI1.out.under HR.out (hb1.mono hBW)); clear x0 x1 x2 x3 x4 x5 hb1; obtain ⟨x0, x1, x2, x3, x4, x5⟩ := pg1.six)
 have HST1 := Lib.hid (HST.out.under HR.out HBW1.out)
 refine wp_region_held_drew (S := fun w' => w'.cell? ⟨g, 2, none⟩ = some (.slice A1 nn c1)) (by kernel_rfl) (by exact x2) (fun hHeld => ?_)
 refine take_at 0 (by kernel_rfl) (by kernel_rfl) (by kernel_rfl) (fun _ _ d _ _ h => by cases d <;> exact h) ⟨_, rfl⟩ (by assumption) (fun o ho => ?_)
 simp only [zg1, zg3, zg4] at ho
 subst ho
 refine ⟨?_, ⟨by rfl, ?_⟩, ?_⟩
 rotate_left
 · intro w hSw
   (try dsimp only at hSw)
   (go_simp; try with_reducible rfl)
 (try simp only [Act.put, zs1, zs2, zs3])
 refine take_at 1 (by kernel_rfl) (by kernel_rfl) (by kernel_rfl) (fun _ _ d _ _ h => by cases d <;> exact h) ⟨_, rfl⟩ (by assumption) (fun o ho => ?_)
 simp only [zg1, zg2, zg3, zg4] at ho
 subst ho
 refine ⟨?_, ⟨by rfl, ?_⟩, ?_⟩
 rotate_left
 · intro w hSw
   (try dsimp only at hSw)
   (go_simp; try with_reducible rfl)
 (try simp only [Act.put, zs1, zs2, zs3])
 refine take_at 2 (by kernel_rfl) (by kernel_rfl) (by kernel_rfl) (fun _ _ d _ _ h => by cases d <;> exact h) ⟨_, rfl⟩ (by assumption) (fun o ho => ?_)
 simp only [zg1, zg2, zg3, zg4] at ho
 subst ho
 refine ⟨?_, ⟨by rfl, ?_⟩, ?_⟩
 rotate_left
 · intro w hSw
   (try dsimp only at hSw)
   (go_simp; try with_reducible rfl)
 (try simp only [Act.put, zs1, zs2, zs3])
 refine take_at 3 (by kernel_rfl) (by kernel_rfl) (by kernel_rfl) (fun _ _ d _ _ h => by cases d <;> exact h) ⟨_, rfl⟩ (by assumption) (fun o ho => ?_)
 simp only [zg1, zg2, zg3, zg4] at ho
 subst ho
 refine ⟨?_, ⟨by rfl, ?_⟩, ?_⟩
 rotate_left
 · intro w hSw
   (try dsimp only at hSw)
   (go_simp; try with_reducible rfl)
 (try simp only [Act.put, zs1, zs2, zs3])
 refine take_at 4 (by kernel_rfl) (by kernel_rfl) (by kernel_rfl) (fun _ _ d _ _ h => by cases d <;> exact h) ⟨_, rfl⟩ (by assumption) (fun o ho => ?_)
 simp only [zg1, zg2, zg3, zg4] at ho
 subst ho
 refine ⟨?_, ⟨by rfl, ?_⟩, ?_⟩
 rotate_left
 · intro w hSw
   (try dsimp only at hSw)
   (go_simp; try with_reducible rfl)
 (try simp only [Act.put, zs1, zs2, zs3])
 refine wpAnyH_ready (rs := [5]) (by kernel_rfl) (by simp) ?_
 refine ready_at 5 ⟨_, rfl⟩ (fun o ho K hK => ?_) AllReadyH.nil
 simp only [zg1, zg2, zg3, zg4] at ho
 subst ho
 go_simp
 go_at_call 79
 rw [← HNN.out]
 refine (HNT.out w1.drew A1 c1 (HST1.out.keep (fun _ _ _ h => h) (fun _ h => h))).mono ?_
 rw [HNN.out]
 rintro e w2 ⟨rfl, hb2⟩
 have hB2 : B ≤ w2.heap.size := Nat.le_trans hB1 hb2.size
 have HB2 := Lib.hid (isB_below (show Lib.IsBuilder TW TB B b bs w1.drew from HB1.out) hb2)
 have HBW2 := Lib.hid ((HBW1.out.drew).trans (hb2.mono hB1))
 have HK2 := Lib.hid ((HK1.out.drew).trans (ok_below hb2))
 have HI3 := Lib.hid (HI2.out.under HR.out ((Below.refl B w1).drew.trans (hb2.mono hB1)))
 have pg2 : Blk w2 g 28 #[.int .i64 22, .string ⟨#[]⟩, .slice A1 nn c1, .bool false, .slice A2 0 c2, .slice (some ⟨kb, ko, none⟩) 1 c3] := ok_below hb2 g _ pg1 (by simpa using hgb) (fun c fz e => by injection e with _ e _; exact absurd e (by decide))
 clear hb2
 refine hK.out _ _ ?_ (fun hHeld2 => ?_)
 · obtain ⟨_, _, y2, _, _, _⟩ := pg2.six
   exact y2
 replace hHeld := hHeld2
 clear hK K hHeld2
 (try simp only [zs1, zs2, zs3])
 refine take_at 6 (by kernel_rfl) (by kernel_rfl) (by kernel_rfl) (fun _ _ d _ _ h => by cases d <;> exact h) ⟨_, rfl⟩ (by assumption) (fun o ho => ?_)
 simp only [zg1, zg2, zg3, zg4] at ho
 subst ho
 refine ⟨?_, ⟨by rfl, ?_⟩, ?_⟩
 rotate_left
 · intro w hSw
   (try dsimp only at hSw)
   (go_simp; try with_reducible rfl)
 (try simp only [Act.put, zs1, zs2, zs3])
 refine take_at 7 (by kernel_rfl) (by kernel_rfl) (by kernel_rfl) (fun _ _ d _ _ h => by cases d <;> exact h) ⟨_, rfl⟩ (by assumption) (fun o ho => ?_)
 simp only [zg1, zg2, zg3, zg4] at ho
 subst ho
 refine ⟨?_, ⟨by rfl, ?_⟩, ?_⟩
 rotate_left
 · intro w hSw
   (try dsimp only at hSw)
   (go_simp; try with_reducible rfl)
 (try simp only [Act.put, zs1, zs2, zs3])
 refine wpAnyH_ready (rs := [8]) (by kernel_rfl) (by simp) ?_
 refine ready_at 8 ⟨_, rfl⟩ (fun o ho K hK => ?_) AllReadyH.nil
 simp only [zg1, zg2, zg3, zg4] at ho
 subst ho
 go_simp
 go_at_call 78
 refine (wstr_w B b bs _ w2 HB2.out ?_ hB2).mono ?_
 · exact hlS
 rintro e w3 ⟨rfl, h3, hb3, hk3⟩
 have pg3 : Blk w3 g 28 #[.int .i64 22, .string ⟨#[]⟩, .slice A1 nn c1, .bool false, .slice A2 0 c2, .slice (some ⟨kb, ko, none⟩) 1 c3] := hk3 g _ pg2 (by simpa using hgb) (fun c fz e => by injection e with _ e _; exact absurd e (by decide))
 have HBW3 := Lib.hid ((HBW2.out).trans hb3)
 have HK3 := Lib.hid ((HK2.out).trans hk3)
 have HI4 := Lib.hid (HI3.out.under HR.out hb3)
 have hB3 : B ≤ w3.heap.size := Nat.le_trans hB2 hb3.size
 have H3 := Lib.hid h3
 clear h3 hb3 hk3
 refine hK.out _ _ ?_ (fun hHeld2 => ?_)
 · obtain ⟨_, _, y2, _, _, _⟩ := pg3.six
   exact y2
 replace hHeld := hHeld2
 clear hK K hHeld2
 (try simp only [zs1, zs2, zs3])
 refine wpAnyH_done (by kernel_rfl) ?_ _
 clear hHeld x0 x1 x2 x3 x4 x5
 obtain ⟨y0, y1, y2, y3, y4, y5⟩ := H6.out.keep (fun p v hp hc => (HBW3.out.cell (by rw [hp]; exact hkB)).trans hc)
 obtain ⟨x0, x1, x2, x3, x4, x5⟩ := pg3.six
 clear ps pg1 pg2 pg3
 go_wp2_with (go_at_call 43; refine (HIH.out B b _ 1 true _ R _ (by decide) HI4.out HR.out (.inr H3.out) HL1.out hB3).mono ?_; rintro e w4 ⟨rfl, h4, hb4, hk4⟩)
 go_end0
 exact ⟨rfl, h4, HBW3.out.trans hb4, HK3.out.trans hk4⟩
end
end Go.Proofs.YthiadenmljbdaaaGreatDoor

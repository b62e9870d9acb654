/-
  q: the parts RW0 RW1 RW2 RWK.
-/
import Derived.Test.YthiadenmljbdaaaGreatDoorB26q
import Derived.Test.YthiadenmljbdaaaGreatDoorB27q
import Derived.Test.YthiadenmljbdaaaGreatDoorB24q
namespace Go.Proofs.YthiadenmljbdaaaGreatDoor
section
open Go.RowKit
open Go.Shelf
attribute [local go_sem] Oper.semAt_some
abbrev TM : TypeId := 73
def Wrt (B b : Nat) (full : List UInt8) (w : World) : Prop := B ≤ b ∧ ∃ (v : Value) (l : List UInt8), Blk w b TM #[v] ∧ w.ownsRow B TB 1 v l.length (Lib.byteCells l) ∧ v.ownBlock ≠ some b ∧ (l = full ∨ (4096 < l.length ∧ 4096 < full.length))
structure WS (B b : Nat) (full : List UInt8) (W w : World) : Prop where
 wr : Wrt B b full w
 bl : Below B W w
 ok : Lib.OthersKept TB (some b) W w
section
variable {B b g : Nat} {full more : List UInt8} {W w w' V : World} {cs : Array Value}
theorem WS.lt (h : WS B b full W w) : b < w.heap.size := by
 obtain ⟨⟨_, v, l, hb, _⟩, _⟩ := h
 exact hb.lt
theorem WS.of (h : Wrt B b full W) : WS B b full W W := ⟨h, Below.refl B W, Lib.OthersKept.refl TB (some b) W⟩
theorem WS.join (h : WS B b full V W) (k : WS B b more W w) : WS B b more V w := ⟨k.wr, h.bl.trans k.bl, h.ok.trans k.ok⟩
theorem WS.blk (h : WS B b full W w) (ps : Blk W g 28 cs) (hgb : g ≠ b) : Blk w g 28 cs :=
 h.ok g _ ps (by simpa using hgb) (fun c fz e => by injection e with _ e _; exact absurd e (by decide))
theorem WS.cell (h : WS B b full W w) {p : Addr} (hp : p.block < B) {v : Value} (hc : W.cell? p = some v) : w.cell? p = some v := (h.bl.cell hp).trans hc
theorem WS.six (h : WS B b full W w) {kb ko : Nat} (hk : kb < B) {v0 v1 v2 v3 v4 v5 : Value} (h6 : six W kb ko v0 v1 v2 v3 v4 v5) : six w kb ko v0 v1 v2 v3 v4 v5 := h6.keep (fun p _ hp hc => (h.bl.cell (by rw [hp]; exact hk)).trans hc)
theorem WS.In (h : WS B b full W w) {R : Nat → Prop} (hR : ∀ g, R g → g < B) {t : T} {v : Value} (hI : T.In W R t v) : T.In w R t v := hI.under hR h.bl
theorem WS.sl (h : WS B b full W w) {R : Nat → Prop} (hR : ∀ g, R g → g < B) {A : Option Addr} {c : Nat} {l : List Nat} (hI : SlR W R A c l) : SlR w R A c l := hI.under hR h.bl
theorem WS.below (h : WS B b full W w) (hB : B ≤ W.heap.size) (hb : Below w.heap.size w w') : WS B b full W w' := by
 have hs := h.bl.size
 have hlt := h.lt
 refine ⟨?_, h.bl.trans (hb.mono (by omega)), h.ok.trans (ok_below hb)⟩
 obtain ⟨⟨hBb, v, l, hbk, hown, hne, hl⟩, _⟩ := h
 exact ⟨hBb, v, l, hbk.below hb, hown.kept (gb_of_below hb none) (by cases hv : v.ownBlock <;> simp), hne, hl⟩
end
set_option maxHeartbeats 2000000 in
set_option maxRecDepth 100000 in
theorem put_r {B b : Nat} {full : List UInt8} {W w : World} (s : ByteArray) (more : List UInt8) (hm : s.data.toList = more) (hs : WS B b full W w) (hz : more.length ≤ 70368744177664) (hB : B ≤ W.heap.size) :
    Calls Tryz.prog 70 #[.pointer (some ⟨b, 0, none⟩), .string s] w fun e w' => e = .returned (.tuple #[]) ∧ WS B b (full ++ more) W w' := by
  obtain ⟨i0, hi, hz0, hz1, hz2⟩ := info_parts info_byte
  obtain ⟨⟨hBb, v, l, hbk, hown, hne, hl⟩, hbl, hok⟩ := hs
  obtain ⟨ao, cap, rfl⟩ : ∃ ao cap, v = .slice ao l.length cap := by
   rcases hown.2 with ⟨hv, h0⟩ | ⟨g, cap, cur, hv, _⟩
   · exact ⟨none, 0, by rw [hv, h0]⟩
   · exact ⟨_, _, hv⟩
  have HSZ : Hid (s.size = more.length) := Lib.hid (by rw [← hm]; exact (size_list s).symm)
  have c0 : w.cell? ⟨b, 0, none⟩ = some (.slice ao l.length cap) := hbk.cell 0
  have hlt := hbk.lt
  have hls := hbl.size
  by_cases hle : l.length ≤ 4096
  ·
   have d1 : decide ((l.length : Int) ≤ 4096) = true := by simp; omega
   obtain rfl : l = full := by rcases hl with h | h; exact h; omega
   clear hl
   go_enter Tryz.func70, Tryz.ntmps70
   go_wp2_with (at_builtin; refine Lib.wpList_append_own_string _ rfl _ _ 71 9 rfl B TB i0 Tryz.underlying71 Tryz.underlying9 hi hz0 hz1 hz2 _ _ _ rfl hown s rfl ?c3 ?c4 ?c5 ?_)
   case c3 => have := HSZ.out; unfold maxLen; omega
   case c4 => have := HSZ.out; omega
   case c5 => omega
   intro v' w2 hown' hgrow _
   have hb2 : Blk w2 b TM #[.slice ao l.length cap] := (hgrow.block b hlt (fun e => hne e.symm)).trans hbk
   have d0 : w2.cell? ⟨b, 0, none⟩ = some (.slice ao l.length cap) := hb2.cell 0
   have f1 : w2.frozen? ⟨b, 0, none⟩ = false := hb2.free 0
   obtain ⟨ao', cap', rfl⟩ : ∃ ao' cap', v' = .slice ao' (l.length + s.size) cap' := by
    rcases hown'.2 with ⟨hv, h0⟩ | ⟨g, cap, cur, hv, _⟩
    · exact ⟨none, 0, by rw [hv, h0]⟩
    · exact ⟨_, _, hv⟩
   go_wp2
   go_end0
   rw [HSZ.out] at hown' ⊢
   have hne' := Lib.ownBlock_ne hown' (show w2.heap[b]? = some (.cells #[.slice ao l.length cap] TM (0, 0)) from hb2) (by decide)
   have hsc : Lib.strCells s = Lib.byteCells more := by rw [Lib.strCells_eq, hm]
   rw [hsc, ← Lib.byteCells_append] at hown'
   refine ⟨rfl, ⟨hBb, _, l ++ more, hb2.put 0 _, ?_, hne', .inl rfl⟩, (hbl.grown hgrow (by omega) (fun k hk => (hown.lt k hk).1)).setCell (p := ⟨b, 0, none⟩) hBb _, (hok.grown hgrow (own_kind hown)).setCell ⟨b, 0, none⟩ rfl _⟩
   rw [List.length_append]
   exact hown'.kept (row := some b) ⟨rfl, rfl, rfl, by simp [World.setCell], fun k _ hk => Below.heap_setCell _ _ _ _ (fun e => hk (by simp [e]))⟩ (Or.inr hne')
  ·
   have d1 : decide ((l.length : Int) ≤ 4096) = false := by simp; omega
   go_enter Tryz.func70, Tryz.ntmps70
   go_wp2
   go_end0
   refine ⟨rfl, ⟨hBb, _, l, hbk, hown, hne, .inr ?_⟩, hbl, hok⟩
   rcases hl with rfl | hl
   · exact ⟨by omega, by rw [List.length_append]; omega⟩
   · exact ⟨hl.1, by rw [List.length_append]; omega⟩
end
section
open Go.RowKit
open Go.Shelf
attribute [local go_sem] Oper.semAt_some
def SumR (t : T) : Prop := ∀ (B b : Nat) (full : List UInt8) (alone : Bool) (W w : World) (R : Nat → Prop) (v : Value), WS B b full W w → B ≤ W.heap.size → T.In W R t v → (∀ g, R g → g < B) →
    Calls Tryz.prog 72 #[.pointer (some ⟨b, 0, none⟩), v, .bool alone] w fun e w' => e = .returned (.tuple #[]) ∧ WS B b (full ++ termB t alone) W w'
theorem rtext_l {w : World} {R : Nat → Prop} {A : Option Addr} {c : Nat} {mg : List Nat} (h : SlR w R A c mg) (hl : mg.length ≤ 1048576) :
    Calls Tryz.prog 71 #[.slice A mg.length c] w fun e w' => e = .returned (.string ⟨(N.txt (N.nv mg)).toArray⟩) ∧ Below w.heap.size w w' := rtext_any w A mg.length c mg h.1 (by omega)
theorem txt_short {w : World} {R : Nat → Prop} {A : Option Addr} {c : Nat} {mg : List Nat} (h : SlR w R A c mg) (hl : mg.length ≤ 1048576) : (N.txt (N.nv mg)).length ≤ 33554433 := by
 have h1 := N.nv_lt h.1.lim
 have h2 := txt_len_bits h1
 omega
set_option maxHeartbeats 3200000 in
set_option maxRecDepth 100000 in
theorem sum_num (m : List Nat) (hml : m.length ≤ 1048576) : SumR (.node 1 ⟨#[]⟩ [] false m []) := by
 intro B b full alone W0 w R v hs hB h hR
 have e : termB (.node 1 ⟨#[]⟩ [] false m []) alone = N.txt (N.nv m) := by
  cases alone
  · show P.bytes [P.Nu m] = _
    simp [P.bytes, P.itB]
  · show P.bytes [P.Nu m] = _
    simp [P.bytes, P.itB]
 rw [e]
 clear e
 have h := hs.In hR h
 rw [T.In] at h
 obtain ⟨A1, c1, A2, c2, A3, c3, rfl, -, hs2, -, -⟩ := h
 obtain ⟨S, hS⟩ : ∃ S : ByteArray, S = ⟨(N.txt (N.nv m)).toArray⟩ := ⟨_, rfl⟩
 obtain ⟨l, hl⟩ : ∃ l, N.txt (N.nv m) = l := ⟨_, rfl⟩
 have hz := txt_short hs2 hml
 have HNT := Lib.hid (fun (w : World) (h : SlR w R A2 c2 m) => hS ▸ rtext_l h hml)
 have hSl : S.data.toList = l := by rw [hS, hl]
 rw [hl] at hz ⊢
 have HSL := Lib.hid hSl
 have HZ := Lib.hid (Nat.le_trans hz (show 33554433 ≤ 70368744177664 by omega))
 clear hS hl hz hSl
 unfold tv
 simp only [List.length_nil]
 go_enter Tryz.func72, Tryz.ntmps72
 go_upto_region 1 with (fail)
 obtain ⟨W, hW, ps, hbW⟩ := made_blk w #[.int .i64 1, .string ⟨#[]⟩, .slice A1 0 c1, .bool false, .slice A2 m.length c2, .slice A3 0 c3] 28
 obtain ⟨g, hg⟩ : ∃ g, g = w.heap.size := ⟨_, rfl⟩
 have HS := Lib.hid (hs.below hB hbW)
 have hs0 := WS.of HS.out.wr
 have hB1 := Nat.le_trans hB hs.bl.size
 have hB2 : B ≤ W.heap.size := Nat.le_trans hB1 hbW.size
 have hgb : g ≠ b := by have := hs.lt; omega
 have hbB := hbW.mono hB1
 have HS2 := Lib.hid (hs2.under hR hbB)
 clear hs2 hR
 rw [← hW, ← hg]
 rw [← hg] at ps
 clear hW hbW hg hs hB hB1 hbB
 obtain ⟨x0, x1, x2, x3, x4, x5⟩ := ps.six
 go_wp2_with (first
  | (go_at_call 71; refine (HNT.out _ HS2.out).mono ?_; rintro e w1 ⟨rfl, hb1⟩; have hs1 := hs0.below hB2 hb1)
  | (go_at_call 70; refine (put_r _ l HSL.out hs1 HZ.out hB2).mono ?_; rintro e w2 ⟨rfl, hs2⟩))
 go_end0
 exact ⟨rfl, HS.out.join hs2⟩
set_option maxHeartbeats 3200000 in
set_option maxRecDepth 100000 in
theorem sum_var (s : ByteArray) (hsz : s.size ≤ 1048576) : SumR (.node 2 s [] false [] []) := by
 intro B b full alone W0 w R v hs hB h hR
 have e : termB (.node 2 s [] false [] []) alone = s.data.toList := by
  cases alone
  · show P.bytes [P.Nm s] = _
    simp [P.bytes, P.itB]
  · show P.bytes [P.Nm s] = _
    simp [P.bytes, P.itB]
 rw [e]
 clear e
 have HZ : Hid (s.data.toList.length ≤ 70368744177664) := Lib.hid (by rw [size_list]; omega)
 rw [T.In] at h
 obtain ⟨A1, c1, A2, c2, A3, c3, rfl, -, -, -, -⟩ := h
 unfold tv
 simp only [List.length_nil]
 go_enter Tryz.func72, Tryz.ntmps72
 go_upto_region 1 with (fail)
 obtain ⟨W, hW, ps, hbW⟩ := made_blk w #[.int .i64 2, .string s, .slice A1 0 c1, .bool false, .slice A2 0 c2, .slice A3 0 c3] 28
 obtain ⟨g, hg⟩ : ∃ g, g = w.heap.size := ⟨_, rfl⟩
 have HS := Lib.hid (hs.below hB hbW)
 have hs0 := WS.of HS.out.wr
 have hB1 := Nat.le_trans hB hs.bl.size
 have hB2 : B ≤ W.heap.size := Nat.le_trans hB1 hbW.size
 have hgb : g ≠ b := by have := hs.lt; omega
 have hbB := hbW.mono hB1
 clear hR
 rw [← hW, ← hg]
 rw [← hg] at ps
 clear hW hbW hg hs hB hB1 hbB
 obtain ⟨x0, x1, x2, x3, x4, x5⟩ := ps.six
 go_wp2_with (go_at_call 70; refine (put_r _ _ rfl hs0 HZ.out hB2).mono ?_; rintro e w1 ⟨rfl, hs1⟩)
 go_end0
 exact ⟨rfl, HS.out.join hs1⟩
set_option maxHeartbeats 3200000 in
set_option maxRecDepth 100000 in
theorem sum_neg (t : T) (ih : SumR t) : SumR (P.nd 3 [t]) := by
 intro B b full alone W0 w R v hs hB h hR
 have e : termB (P.nd 3 [t]) alone = [45] ++ termB t true := by
  have hb := P.body_neg t
  have ht : P.tight (P.pt (P.nd 3 [t])) = P.body (P.nd 3 [t]) true := by unfold P.tight; rw [if_neg (by show ¬((3 : Int) = 4 ∨ (3 : Int) = 5); decide)]; rfl
  unfold termB
  rw [ht, ite_self, hb, P.bytes_cons]
  rfl
 rw [e, ← List.append_assoc]
 clear e
 have h := hs.In hR h
 rw [P.nd, T.In] at h
 obtain ⟨A1, c1, A2, c2, A3, c3, rfl, -, -, hc3, hk⟩ := h
 obtain ⟨kb, ko, rfl, hRk, hI⟩ := hk (by simp)
 rw [T.Ins] at hI
 obtain ⟨⟨v0, v1, v2, v3, v4, v5, h6, hI0⟩, -⟩ := hI
 have hkB := hR kb hRk
 clear hk
 have IH := Lib.hid ih
 clear ih
 unfold tv
 simp only [List.length_nil, List.length_cons, Nat.zero_add]
 go_enter Tryz.func72, Tryz.ntmps72
 go_upto_region 1 with (fail)
 obtain ⟨W, hW, ps, hbW⟩ := made_blk w #[.int .i64 3, .string ⟨#[]⟩, .slice A1 0 c1, .bool false, .slice A2 0 c2, .slice (some ⟨kb, ko, none⟩) 1 c3] 28
 obtain ⟨g, hg⟩ : ∃ g, g = w.heap.size := ⟨_, rfl⟩
 have HS := Lib.hid (hs.below hB hbW)
 have hs0 := WS.of HS.out.wr
 have hB1 := Nat.le_trans hB hs.bl.size
 have hB2 : B ≤ W.heap.size := Nat.le_trans hB1 hbW.size
 have hgb : g ≠ b := by have := hs.lt; omega
 have hbB := hbW.mono hB1
 have HI := Lib.hid (hI0.under hR hbB)
 have h6 := h6.keep (fun p v hp hc => (hbB.cell (by rw [hp]; exact hkB)).trans hc)
 have HR := Lib.hid hR
 clear hI0 hR
 rw [← hW, ← hg]
 rw [← hg] at ps
 clear hW hbW hg hs hB hB1 hbB
 obtain ⟨x0, x1, x2, x3, x4, x5⟩ := ps.six
 go_upto_region 13 with (go_at_call 70; refine (put_r _ [45] rfl hs0 (by decide) hB2).mono ?_; rintro e w1 ⟨rfl, hs1⟩; clear x0 x1 x2 x3 x4 x5; obtain ⟨x0, x1, x2, x3, x4, x5⟩ := (hs1.blk ps hgb).six)
 obtain ⟨y0, y1, y2, y3, y4, y5⟩ := hs1.six hkB h6
 go_wp2_with (go_at_call 72; refine (IH.out B b _ true W _ R _ hs1 hB2 HI.out HR.out).mono ?_; rintro e w2 ⟨rfl, hs2⟩; clear x0 x1 x2 x3 x4 x5; obtain ⟨x0, x1, x2, x3, x4, x5⟩ := (hs2.blk ps hgb).six)
 go_end0
 exact ⟨rfl, HS.out.join hs2⟩
set_option maxHeartbeats 3200000 in
set_option maxRecDepth 100000 in
theorem sum_mul (m : List Nat) (hml : m.length ≤ 1048576) (t : T) (ih : SumR t) : SumR (.node 6 ⟨#[]⟩ [] false m [t]) := by
 intro B b full alone W0 w R v hs hB h hR
 have e : termB (.node 6 ⟨#[]⟩ [] false m [t]) alone = (N.txt (N.nv m) ++ [32, 42, 32]) ++ termB t true := by
  have hb := P.body_mul m t
  have ht : P.tight (P.pt (.node 6 ⟨#[]⟩ [] false m [t])) = P.body (.node 6 ⟨#[]⟩ [] false m [t]) true := by unfold P.tight; rw [if_neg (by show ¬((6 : Int) = 4 ∨ (6 : Int) = 5); decide)]; rfl
  unfold termB
  rw [ht, ite_self, hb, P.bytes_cons, P.bytes_cons, P.bytes_cons, P.bytes_cons]
  simp [P.itB]
 rw [e, ← List.append_assoc]
 clear e
 have h := hs.In hR h
 rw [T.In] at h
 obtain ⟨A1, c1, A2, c2, A3, c3, rfl, -, hs2, hc3, hk⟩ := h
 obtain ⟨kb, ko, rfl, hRk, hI⟩ := hk (by simp)
 rw [T.Ins] at hI
 obtain ⟨⟨v0, v1, v2, v3, v4, v5, h6, hI0⟩, -⟩ := hI
 have hkB := hR kb hRk
 clear hk
 obtain ⟨S, hS⟩ : ∃ S : ByteArray, S = ⟨(N.txt (N.nv m)).toArray⟩ := ⟨_, rfl⟩
 obtain ⟨l, hl⟩ : ∃ l, N.txt (N.nv m) = l := ⟨_, rfl⟩
 have hz := txt_short hs2 hml
 have HNT := Lib.hid (fun (w : World) (h : SlR w R A2 c2 m) => hS ▸ rtext_l h hml)
 have hSl : (S ++ ⟨#[32, 42, 32]⟩ : ByteArray).data.toList = l ++ [32, 42, 32] := by rw [hS, hl]; simp
 have hSz : S.size = l.length := by rw [hS, hl]; simp [ByteArray.size]
 have hcat : ¬ (9223372036854775807 < S.size + (⟨#[32, 42, 32]⟩ : ByteArray).size) := by have : (⟨#[32, 42, 32]⟩ : ByteArray).size = 3 := rfl; rw [hl] at hz; omega
 have hcat2 : ¬ (9223372036854775807 < S.size + 3) := by rw [hl] at hz; omega
 rw [hl] at hz ⊢
 have HSL := Lib.hid hSl
 have HZ : Hid ((l ++ [32, 42, 32]).length ≤ 70368744177664) := Lib.hid (by rw [List.length_append]; simp only [List.length_cons, List.length_nil]; omega)
 clear hS hl hSl
 have IH := Lib.hid ih
 clear ih
 unfold tv
 simp only [List.length_nil, List.length_cons, Nat.zero_add]
 go_enter Tryz.func72, Tryz.ntmps72
 go_upto_region 1 with (fail)
 obtain ⟨W, hW, ps, hbW⟩ := made_blk w #[.int .i64 6, .string ⟨#[]⟩, .slice A1 0 c1, .bool false, .slice A2 m.length c2, .slice (some ⟨kb, ko, none⟩) 1 c3] 28
 obtain ⟨g, hg⟩ : ∃ g, g = w.heap.size := ⟨_, rfl⟩
 have HS := Lib.hid (hs.below hB hbW)
 have hs0 := WS.of HS.out.wr
 have hB1 := Nat.le_trans hB hs.bl.size
 have hB2 : B ≤ W.heap.size := Nat.le_trans hB1 hbW.size
 have hgb : g ≠ b := by have := hs.lt; omega
 have hbB := hbW.mono hB1
 have HS2 := Lib.hid (hs2.under hR hbB)
 clear hs2
 have HI := Lib.hid (hI0.under hR hbB)
 have h6 := h6.keep (fun p v hp hc => (hbB.cell (by rw [hp]; exact hkB)).trans hc)
 have HR := Lib.hid hR
 clear hI0 hR
 rw [← hW, ← hg]
 rw [← hg] at ps
 clear hW hbW hg hs hB hB1 hbB
 obtain ⟨x0, x1, x2, x3, x4, x5⟩ := ps.six
 go_upto_region 16 with (first | (go_at_call 71; refine (HNT.out _ HS2.out).mono ?_; rintro e w1 ⟨rfl, hb1⟩; have hs1 := hs0.below hB2 hb1; clear x0 x1 x2 x3 x4 x5; obtain ⟨x0, x1, x2, x3, x4, x5⟩ := (hs1.blk ps hgb).six) | (go_at_call 70; refine (put_r _ _ HSL.out hs1 HZ.out hB2).mono ?_; rintro e w2 ⟨rfl, hs2⟩; clear x0 x1 x2 x3 x4 x5; obtain ⟨x0, x1, x2, x3, x4, x5⟩ := (hs2.blk ps hgb).six))
 obtain ⟨y0, y1, y2, y3, y4, y5⟩ := hs2.six hkB h6
 go_wp2_with (go_at_call 72; refine (IH.out B b _ true W _ R _ hs2 hB2 HI.out HR.out).mono ?_; rintro e w3 ⟨rfl, hs3⟩; clear x0 x1 x2 x3 x4 x5; obtain ⟨x0, x1, x2, x3, x4, x5⟩ := (hs3.blk ps hgb).six)
 go_end0
 exact ⟨rfl, HS.out.join hs3⟩
set_option maxHeartbeats 3200000 in
set_option maxRecDepth 100000 in
theorem sum_40 (t u : T) (iht : SumR t) (ihu : SumR u) (B b : Nat) (full : List UInt8) (W0 w : World) (R : Nat → Prop) (v : Value) (hs : WS B b full W0 w) (hB : B ≤ W0.heap.size) (h : T.In W0 R (P.nd 4 [t, u]) v) (hR : ∀ g, R g → g < B) :
    Calls Tryz.prog 72 #[.pointer (some ⟨b, 0, none⟩), v, .bool false] w fun e w' => e = .returned (.tuple #[]) ∧ WS B b (full ++ termB (P.nd 4 [t, u]) false) W0 w' := by
  rw [(termB_two 4 43 (by decide) t u (P.body_add t u)).1, ← List.append_assoc, ← List.append_assoc]
  have h := hs.In hR h
  rw [P.nd, T.In] at h
  obtain ⟨A1, c1, A2, c2, A3, c3, rfl, -, -, hc3, hk⟩ := h
  obtain ⟨kb, ko, rfl, hRk, hI⟩ := hk (by simp)
  rw [T.Ins, T.Ins] at hI
  obtain ⟨⟨v0, v1, v2, v3, v4, v5, h6, hI0⟩, ⟨u0, u1, u2, u3, u4, u5, k6, hJ0⟩, -⟩ := hI
  have hkB := hR kb hRk
  clear hk
  have IHT := Lib.hid iht
  have IHU := Lib.hid ihu
  clear iht ihu
  unfold tv
  simp only [List.length_nil, List.length_cons, Nat.zero_add, Nat.reduceAdd]
  go_enter Tryz.func72, Tryz.ntmps72
  go_upto_region 1 with (fail)
  obtain ⟨W, hW, ps, hbW⟩ := made_blk w #[.int .i64 4, .string ⟨#[]⟩, .slice A1 0 c1, .bool false, .slice A2 0 c2, .slice (some ⟨kb, ko, none⟩) 2 c3] 28
  obtain ⟨g, hg⟩ : ∃ g, g = w.heap.size := ⟨_, rfl⟩
  have HS := Lib.hid (hs.below hB hbW)
  have hs0 := WS.of HS.out.wr
  have hB1 := Nat.le_trans hB hs.bl.size
  have hB2 : B ≤ W.heap.size := Nat.le_trans hB1 hbW.size
  have hgb : g ≠ b := by have := hs.lt; omega
  have hbB := hbW.mono hB1
  have HI := Lib.hid (hI0.under hR hbB)
  have HJ := Lib.hid (hJ0.under hR hbB)
  have h6 := h6.keep (fun p v hp hc => (hbB.cell (by rw [hp]; exact hkB)).trans hc)
  have k6 := k6.keep (fun p v hp hc => (hbB.cell (by rw [hp]; exact hkB)).trans hc)
  have HR := Lib.hid hR
  clear hI0 hJ0 hR
  rw [← hW, ← hg]
  rw [← hg] at ps
  clear hW hbW hg hs hB hB1 hbB
  obtain ⟨x0, x1, x2, x3, x4, x5⟩ := ps.six
  obtain ⟨y0, y1, y2, y3, y4, y5⟩ := h6
  go_upto_region 19 with (go_at_call 72; refine (IHT.out B b _ false W _ R _ hs0 hB2 HI.out HR.out).mono ?_; rintro e w1 ⟨rfl, hs1⟩; clear x0 x1 x2 x3 x4 x5; obtain ⟨x0, x1, x2, x3, x4, x5⟩ := (hs1.blk ps hgb).six)
  go_upto_region 20 with (go_at_call 70; refine (put_r _ [32, 43, 32] rfl hs1 (by decide) hB2).mono ?_; rintro e w2 ⟨rfl, hs2⟩; clear x0 x1 x2 x3 x4 x5; obtain ⟨x0, x1, x2, x3, x4, x5⟩ := (hs2.blk ps hgb).six)
  clear y0 y1 y2 y3 y4 y5
  obtain ⟨y0, y1, y2, y3, y4, y5⟩ := hs2.six hkB k6
  go_wp2_with (go_at_call 72; refine (IHU.out B b _ true W _ R _ hs2 hB2 HJ.out HR.out).mono ?_; rintro e w3 ⟨rfl, hs3⟩; clear x0 x1 x2 x3 x4 x5; obtain ⟨x0, x1, x2, x3, x4, x5⟩ := (hs3.blk ps hgb).six)
  go_end0
  exact ⟨rfl, HS.out.join hs3⟩
set_option maxHeartbeats 3200000 in
set_option maxRecDepth 100000 in
theorem sum_4 (t u : T) (iht : SumR t) (ihu : SumR u) : SumR (P.nd 4 [t, u]) := by
 intro B b full alone W0 w R v hs hB h hR
 cases alone
 · exact sum_40 t u iht ihu B b full W0 w R v hs hB h hR
 have IH := Lib.hid (sum_40 t u iht ihu)
 clear iht ihu
 have e0 := termB_two 4 43 (by decide) t u (P.body_add t u)
 have e : termB (P.nd 4 [t, u]) true = ([40] ++ termB (P.nd 4 [t, u]) false) ++ [41] := by rw [e0.2, e0.1]; simp
 rw [e, ← List.append_assoc, ← List.append_assoc]
 clear e e0
 have h := hs.In hR h
 have hc := h
 rw [P.nd, T.In] at hc
 obtain ⟨A1, c1, A2, c2, A3, c3, rfl, -⟩ := hc
 unfold tv at h ⊢
 simp only [List.length_nil, List.length_cons, Nat.zero_add, Nat.reduceAdd] at h ⊢
 go_enter Tryz.func72, Tryz.ntmps72
 go_upto_region 1 with (fail)
 obtain ⟨W, hW, ps, hbW⟩ := made_blk w #[.int .i64 4, .string ⟨#[]⟩, .slice A1 0 c1, .bool false, .slice A2 0 c2, .slice A3 2 c3] 28
 obtain ⟨g, hg⟩ : ∃ g, g = w.heap.size := ⟨_, rfl⟩
 have HS := Lib.hid (hs.below hB hbW)
 have hs0 := WS.of HS.out.wr
 have hB1 := Nat.le_trans hB hs.bl.size
 have hB2 : B ≤ W.heap.size := Nat.le_trans hB1 hbW.size
 have hgb : g ≠ b := by have := hs.lt; omega
 have hbB := hbW.mono hB1
 have HI := Lib.hid (h.under hR hbB)
 have HR := Lib.hid hR
 clear h hR
 rw [← hW, ← hg]
 rw [← hg] at ps
 clear hW hbW hg hs hB hB1 hbB
 obtain ⟨x0, x1, x2, x3, x4, x5⟩ := ps.six
 go_upto_region 4 with (go_at_call 70; refine (put_r _ [40] rfl hs0 (by decide) hB2).mono ?_; rintro e w1 ⟨rfl, hs1⟩; clear x0 x1 x2 x3 x4 x5; obtain ⟨x0, x1, x2, x3, x4, x5⟩ := (hs1.blk ps hgb).six)
 go_upto_region 5 with (go_at_call 72; refine (IH.out B b _ W _ R _ hs1 hB2 HI.out HR.out).mono ?_; rintro e w2 ⟨rfl, hs2⟩; clear x0 x1 x2 x3 x4 x5; obtain ⟨x0, x1, x2, x3, x4, x5⟩ := (hs2.blk ps hgb).six)
 go_wp2_with (go_at_call 70; refine (put_r _ [41] rfl hs2 (by decide) hB2).mono ?_; rintro e w3 ⟨rfl, hs3⟩; clear x0 x1 x2 x3 x4 x5; obtain ⟨x0, x1, x2, x3, x4, x5⟩ := (hs3.blk ps hgb).six)
 refine bodyPost_ret (results_none rfl _ _ _) rfl ?_
 exact ⟨rfl, HS.out.join hs3⟩
set_option maxHeartbeats 3200000 in
set_option maxRecDepth 100000 in
theorem sum_50 (t u : T) (iht : SumR t) (ihu : SumR u) (B b : Nat) (full : List UInt8) (W0 w : World) (R : Nat → Prop) (v : Value) (hs : WS B b full W0 w) (hB : B ≤ W0.heap.size) (h : T.In W0 R (P.nd 5 [t, u]) v) (hR : ∀ g, R g → g < B) :
    Calls Tryz.prog 72 #[.pointer (some ⟨b, 0, none⟩), v, .bool false] w fun e w' => e = .returned (.tuple #[]) ∧ WS B b (full ++ termB (P.nd 5 [t, u]) false) W0 w' := by
  rw [(termB_two 5 45 (by decide) t u (P.body_sub t u)).1, ← List.append_assoc, ← List.append_assoc]
  have h := hs.In hR h
  rw [P.nd, T.In] at h
  obtain ⟨A1, c1, A2, c2, A3, c3, rfl, -, -, hc3, hk⟩ := h
  obtain ⟨kb, ko, rfl, hRk, hI⟩ := hk (by simp)
  rw [T.Ins, T.Ins] at hI
  obtain ⟨⟨v0, v1, v2, v3, v4, v5, h6, hI0⟩, ⟨u0, u1, u2, u3, u4, u5, k6, hJ0⟩, -⟩ := hI
  have hkB := hR kb hRk
  clear hk
  have IHT := Lib.hid iht
  have IHU := Lib.hid ihu
  clear iht ihu
  unfold tv
  simp only [List.length_nil, List.length_cons, Nat.zero_add, Nat.reduceAdd]
  go_enter Tryz.func72, Tryz.ntmps72
  go_upto_region 1 with (fail)
  obtain ⟨W, hW, ps, hbW⟩ := made_blk w #[.int .i64 5, .string ⟨#[]⟩, .slice A1 0 c1, .bool false, .slice A2 0 c2, .slice (some ⟨kb, ko, none⟩) 2 c3] 28
  obtain ⟨g, hg⟩ : ∃ g, g = w.heap.size := ⟨_, rfl⟩
  have HS := Lib.hid (hs.below hB hbW)
  have hs0 := WS.of HS.out.wr
  have hB1 := Nat.le_trans hB hs.bl.size
  have hB2 : B ≤ W.heap.size := Nat.le_trans hB1 hbW.size
  have hgb : g ≠ b := by have := hs.lt; omega
  have hbB := hbW.mono hB1
  have HI := Lib.hid (hI0.under hR hbB)
  have HJ := Lib.hid (hJ0.under hR hbB)
  have h6 := h6.keep (fun p v hp hc => (hbB.cell (by rw [hp]; exact hkB)).trans hc)
  have k6 := k6.keep (fun p v hp hc => (hbB.cell (by rw [hp]; exact hkB)).trans hc)
  have HR := Lib.hid hR
  clear hI0 hJ0 hR
  rw [← hW, ← hg]
  rw [← hg] at ps
  clear hW hbW hg hs hB hB1 hbB
  obtain ⟨x0, x1, x2, x3, x4, x5⟩ := ps.six
  obtain ⟨y0, y1, y2, y3, y4, y5⟩ := h6
  go_upto_region 23 with (go_at_call 72; refine (IHT.out B b _ false W _ R _ hs0 hB2 HI.out HR.out).mono ?_; rintro e w1 ⟨rfl, hs1⟩; clear x0 x1 x2 x3 x4 x5; obtain ⟨x0, x1, x2, x3, x4, x5⟩ := (hs1.blk ps hgb).six)
  go_upto_region 24 with (go_at_call 70; refine (put_r _ [32, 45, 32] rfl hs1 (by decide) hB2).mono ?_; rintro e w2 ⟨rfl, hs2⟩; clear x0 x1 x2 x3 x4 x5; obtain ⟨x0, x1, x2, x3, x4, x5⟩ := (hs2.blk ps hgb).six)
  clear y0 y1 y2 y3 y4 y5
  obtain ⟨y0, y1, y2, y3, y4, y5⟩ := hs2.six hkB k6
  go_wp2_with (go_at_call 72; refine (IHU.out B b _ true W _ R _ hs2 hB2 HJ.out HR.out).mono ?_; rintro e w3 ⟨rfl, hs3⟩; clear x0 x1 x2 x3 x4 x5; obtain ⟨x0, x1, x2, x3, x4, x5⟩ := (hs3.blk ps hgb).six)
  go_end0
  exact ⟨rfl, HS.out.join hs3⟩
set_option maxHeartbeats 3200000 in
set_option maxRecDepth 100000 in
theorem sum_5 (t u : T) (iht : SumR t) (ihu : SumR u) : SumR (P.nd 5 [t, u]) := by
 intro B b full alone W0 w R v hs hB h hR
 cases alone
 · exact sum_50 t u iht ihu B b full W0 w R v hs hB h hR
 have IH := Lib.hid (sum_50 t u iht ihu)
 clear iht ihu
 have e0 := termB_two 5 45 (by decide) t u (P.body_sub t u)
 have e : termB (P.nd 5 [t, u]) true = ([40] ++ termB (P.nd 5 [t, u]) false) ++ [41] := by rw [e0.2, e0.1]; simp
 rw [e, ← List.append_assoc, ← List.append_assoc]
 clear e e0
 have h := hs.In hR h
 have hc := h
 rw [P.nd, T.In] at hc
 obtain ⟨A1, c1, A2, c2, A3, c3, rfl, -⟩ := hc
 unfold tv at h ⊢
 simp only [List.length_nil, List.length_cons, Nat.zero_add, Nat.reduceAdd] at h ⊢
 go_enter Tryz.func72, Tryz.ntmps72
 go_upto_region 1 with (fail)
 obtain ⟨W, hW, ps, hbW⟩ := made_blk w #[.int .i64 5, .string ⟨#[]⟩, .slice A1 0 c1, .bool false, .slice A2 0 c2, .slice A3 2 c3] 28
 obtain ⟨g, hg⟩ : ∃ g, g = w.heap.size := ⟨_, rfl⟩
 have HS := Lib.hid (hs.below hB hbW)
 have hs0 := WS.of HS.out.wr
 have hB1 := Nat.le_trans hB hs.bl.size
 have hB2 : B ≤ W.heap.size := Nat.le_trans hB1 hbW.size
 have hgb : g ≠ b := by have := hs.lt; omega
 have hbB := hbW.mono hB1
 have HI := Lib.hid (h.under hR hbB)
 have HR := Lib.hid hR
 clear h hR
 rw [← hW, ← hg]
 rw [← hg] at ps
 clear hW hbW hg hs hB hB1 hbB
 obtain ⟨x0, x1, x2, x3, x4, x5⟩ := ps.six
 go_upto_region 4 with (go_at_call 70; refine (put_r _ [40] rfl hs0 (by decide) hB2).mono ?_; rintro e w1 ⟨rfl, hs1⟩; clear x0 x1 x2 x3 x4 x5; obtain ⟨x0, x1, x2, x3, x4, x5⟩ := (hs1.blk ps hgb).six)
 go_upto_region 5 with (go_at_call 72; refine (IH.out B b _ W _ R _ hs1 hB2 HI.out HR.out).mono ?_; rintro e w2 ⟨rfl, hs2⟩; clear x0 x1 x2 x3 x4 x5; obtain ⟨x0, x1, x2, x3, x4, x5⟩ := (hs2.blk ps hgb).six)
 go_wp2_with (go_at_call 70; refine (put_r _ [41] rfl hs2 (by decide) hB2).mono ?_; rintro e w3 ⟨rfl, hs3⟩; clear x0 x1 x2 x3 x4 x5; obtain ⟨x0, x1, x2, x3, x4, x5⟩ := (hs3.blk ps hgb).six)
 refine bodyPost_ret (results_none rfl _ _ _) rfl ?_
 exact ⟨rfl, HS.out.join hs3⟩
theorem sum_all {b : Bool} {t : T} (h : P.Wf b t) : b = false → t.bulk ≤ 1048576 → SumR t := by
 induction h with
 | num m hm => exact fun _ hbk => sum_num m (by rw [P.bulk_no] at hbk; omega)
 | var s hs => exact fun _ hbk => sum_var s (by rw [T.bulk] at hbk; omega)
 | neg t ht ih => exact fun _ hbk => sum_neg t (ih rfl (by rw [P.nd, P.bulk_no, P.bulks_one] at hbk; omega))
 | mul m hm t ht ih => exact fun _ hbk => sum_mul m (by rw [P.bulk_no] at hbk; omega) t (ih rfl (by rw [P.bulk_no, P.bulks_one] at hbk; omega))
 | add t u ht hu iht ihu =>
  refine fun _ hbk => ?_
  have hbt : t.bulk ≤ 1048576 ∧ u.bulk ≤ 1048576 := by rw [P.nd, P.bulk_no, P.bulks_cons, P.bulks_one] at hbk; omega
  exact sum_4 t u (iht rfl hbt.1) (ihu rfl hbt.2)
 | sub t u ht hu iht ihu =>
  refine fun _ hbk => ?_
  have hbt : t.bulk ≤ 1048576 ∧ u.bulk ≤ 1048576 := by rw [P.nd, P.bulk_no, P.bulks_cons, P.bulks_one] at hbk; omega
  exact sum_5 t u (iht rfl hbt.1) (ihu rfl hbt.2)
 | tt => intro h; cases h
 | ff => intro h; cases h
 | cmp k hk t u ht hu iht ihu => intro h; cases h
 | div m hm h0 t ht ih => intro h; cases h
 | not t ht ih => intro h; cases h
 | and t u ks ht hu hks iht ihu ihks => intro h; cases h
 | or t u ks ht hu hks iht ihu ihks => intro h; cases h
 | imp t u ht hu iht ihu => intro h; cases h
 | iff t u ht hu iht ihu => intro h; cases h
 | some s ns hs hns t ht ih => intro h; cases h
 | all s ns hs hns t ht ih => intro h; cases h
end
section
open Go.RowKit
open Go.Shelf
attribute [local go_sem] Oper.semAt_some
theorem level_k (k : Int) (L : Nat) (hL : P.level k = L) (w : World) : Calls Tryz.prog 69 #[.int .i64 k] w fun e w' => e = .returned (.int .i64 (L : Nat)) ∧ w' = w := by
 subst hL
 by_cases h20 : k = 20
 · subst h20
   go_enter Tryz.func69, Tryz.ntmps69
   go_wp2
   go_ret
   exact ⟨rfl, rfl⟩
 by_cases h19 : k = 19
 · subst h19
   go_enter Tryz.func69, Tryz.ntmps69
   go_wp2
   go_ret
   exact ⟨rfl, rfl⟩
 by_cases h18 : k = 18
 · subst h18
   go_enter Tryz.func69, Tryz.ntmps69
   go_wp2
   go_ret
   exact ⟨rfl, rfl⟩
 by_cases h17 : k = 17
 · subst h17
   go_enter Tryz.func69, Tryz.ntmps69
   go_wp2
   go_ret
   exact ⟨rfl, rfl⟩
 by_cases h5 : k = 16 ∨ k = 21 ∨ k = 22
 ·
  rcases h5 with rfl | rfl | rfl
  all_goals
   go_enter Tryz.func69, Tryz.ntmps69
   go_wp2
   go_ret
   exact ⟨rfl, rfl⟩
 ·
  have d20 : (k == 20) = false := by simpa using h20
  have d19 : (k == 19) = false := by simpa using h19
  have d18 : (k == 18) = false := by simpa using h18
  have d17 : (k == 17) = false := by simpa using h17
  have d16 : (k == 16) = false := by simp; omega
  have d21 : (k == 21) = false := by simp; omega
  have d22 : (k == 22) = false := by simp; omega
  have hL : P.level k = 6 := by unfold P.level; rw [if_neg h20, if_neg h19, if_neg h18, if_neg h17, if_neg h5]
  rw [hL]
  clear hL h20 h19 h18 h17 h5
  go_enter Tryz.func69, Tryz.ntmps69
  go_wp2
  go_ret
  exact ⟨rfl, rfl⟩
theorem between_17 (w : World) : Calls Tryz.prog 73 #[.int .i64 17] w fun e w' => e = .returned (.tuple #[.string ⟨#[97, 110, 100]⟩, .int .i64 5, .int .i64 5]) ∧ w' = w := by
 go_enter Tryz.func73, Tryz.ntmps73
 go_wp2
 go_ret3
 exact ⟨rfl, rfl⟩
theorem between_18 (w : World) : Calls Tryz.prog 73 #[.int .i64 18] w fun e w' => e = .returned (.tuple #[.string ⟨#[111, 114]⟩, .int .i64 4, .int .i64 4]) ∧ w' = w := by
 go_enter Tryz.func73, Tryz.ntmps73
 go_wp2
 go_ret3
 exact ⟨rfl, rfl⟩
theorem between_19 (w : World) : Calls Tryz.prog 73 #[.int .i64 19] w fun e w' => e = .returned (.tuple #[.string ⟨#[105, 109, 112, 108, 105, 101, 115]⟩, .int .i64 3, .int .i64 2]) ∧ w' = w := by
 go_enter Tryz.func73, Tryz.ntmps73
 go_wp2
 go_ret3
 exact ⟨rfl, rfl⟩
theorem between_20 (w : World) : Calls Tryz.prog 73 #[.int .i64 20] w fun e w' => e = .returned (.tuple #[.string ⟨#[105, 102, 102]⟩, .int .i64 1, .int .i64 2]) ∧ w' = w := by
 go_enter Tryz.func73, Tryz.ntmps73
 go_wp2
 go_ret3
 exact ⟨rfl, rfl⟩
theorem signs_9 (w : World) : Calls Tryz.prog 74 #[.int .i64 9] w fun e w' => e = .returned (.string ⟨#[32, 60, 32]⟩) ∧ w' = w := by
 go_enter Tryz.func74, Tryz.ntmps74
 go_wp2
 go_ret
 exact ⟨rfl, rfl⟩
theorem signs_10 (w : World) : Calls Tryz.prog 74 #[.int .i64 10] w fun e w' => e = .returned (.string ⟨#[32, 60, 61, 32]⟩) ∧ w' = w := by
 go_enter Tryz.func74, Tryz.ntmps74
 go_wp2
 go_ret
 exact ⟨rfl, rfl⟩
theorem signs_11 (w : World) : Calls Tryz.prog 74 #[.int .i64 11] w fun e w' => e = .returned (.string ⟨#[32, 61, 32]⟩) ∧ w' = w := by
 go_enter Tryz.func74, Tryz.ntmps74
 go_wp2
 go_ret
 exact ⟨rfl, rfl⟩
theorem signs_12 (w : World) : Calls Tryz.prog 74 #[.int .i64 12] w fun e w' => e = .returned (.string ⟨#[32, 33, 61, 32]⟩) ∧ w' = w := by
 go_enter Tryz.func74, Tryz.ntmps74
 go_wp2
 go_ret
 exact ⟨rfl, rfl⟩
theorem signs_13 (w : World) : Calls Tryz.prog 74 #[.int .i64 13] w fun e w' => e = .returned (.string ⟨#[32, 62, 61, 32]⟩) ∧ w' = w := by
 go_enter Tryz.func74, Tryz.ntmps74
 go_wp2
 go_ret
 exact ⟨rfl, rfl⟩
theorem signs_14 (w : World) : Calls Tryz.prog 74 #[.int .i64 14] w fun e w' => e = .returned (.string ⟨#[32, 62, 32]⟩) ∧ w' = w := by
 go_enter Tryz.func74, Tryz.ntmps74
 go_wp2
 go_ret
 exact ⟨rfl, rfl⟩
def FormR (t : T) : Prop := ∀ (B b : Nat) (full : List UInt8) (least : Nat) (last : Bool) (W w : World) (R : Nat → Prop) (v : Value), WS B b full W w → B ≤ W.heap.size → T.In W R t v → (∀ g, R g → g < B) →
    Calls Tryz.prog 42 #[.pointer (some ⟨b, 0, none⟩), v, .int .i64 (least : Nat), .bool last] w fun e w' => e = .returned (.tuple #[]) ∧ WS B b (full ++ formB least last t) W w'
def BodyR (t : T) : Prop := ∀ (B b : Nat) (full : List UInt8) (least : Nat) (last : Bool) (W w : World) (R : Nat → Prop) (v : Value), ¬ (P.level t.k < least ∨ (P.binds t.k = true ∧ last = false)) → WS B b full W w → B ≤ W.heap.size → T.In W R t v → (∀ g, R g → g < B) →
    Calls Tryz.prog 42 #[.pointer (some ⟨b, 0, none⟩), v, .int .i64 (least : Nat), .bool last] w fun e w' => e = .returned (.tuple #[]) ∧ WS B b (full ++ bodyB last t) W w'
set_option maxHeartbeats 16000000 in
set_option maxRecDepth 100000 in
theorem form_par (t : T) (hw : BodyR t) (B b : Nat) (full : List UInt8) (least : Nat) (last : Bool) (W0 w : World) (R : Nat → Prop) (v : Value) (hc : P.level t.k < least ∨ (P.binds t.k = true ∧ last = false)) (hs : WS B b full W0 w) (hB : B ≤ W0.heap.size) (h : T.In W0 R t v) (hR : ∀ g, R g → g < B) :
    Calls Tryz.prog 42 #[.pointer (some ⟨b, 0, none⟩), v, .int .i64 (least : Nat), .bool last] w fun e w' => e = .returned (.tuple #[]) ∧ WS B b (full ++ ([40] ++ (bodyB true t ++ [41]))) W0 w' := by
  have hnp : ¬ (P.level t.k < 1 ∨ (P.binds t.k = true ∧ true = false)) := by
   have : 1 ≤ P.level t.k := by unfold P.level; split <;> (try split) <;> (try split) <;> (try split) <;> (try split) <;> omega
   rintro (h | h)
   · omega
   · exact absurd h.2 (by decide)
  have HW := Lib.hid (fun (full : List UInt8) (w : World) (R : Nat → Prop) (v : Value) (W : World) hs hB h hR => hw B b full 1 true W w R v hnp hs hB h hR)
  rw [← List.append_assoc, ← List.append_assoc]
  have h := hs.In hR h
  have hf := h
  obtain ⟨A1, c1, A2, c2, A3, c3, rfl, _⟩ := hf.form
  obtain ⟨nm, hnm⟩ : ∃ x, t.nm = x := ⟨_, rfl⟩
  obtain ⟨ng, hng⟩ : ∃ x, t.ng = x := ⟨_, rfl⟩
  obtain ⟨n1, hn1⟩ : ∃ x, t.ns.length = x := ⟨_, rfl⟩
  obtain ⟨n2, hn2⟩ : ∃ x, t.mg.length = x := ⟨_, rfl⟩
  obtain ⟨n3, hn3⟩ : ∃ x, t.ks.length = x := ⟨_, rfl⟩
  obtain ⟨kk, hkk⟩ : ∃ x, t.k = x := ⟨_, rfl⟩
  obtain ⟨L, hL⟩ : ∃ x, P.level kk = x := ⟨_, rfl⟩
  rw [hkk, hL] at hc
  rw [hkk, hnm, hng, hn1, hn2, hn3] at h ⊢
  have HLV := Lib.hid (level_k kk L hL)
  obtain ⟨p, hp⟩ : ∃ p, decide (L < least) = p := ⟨_, rfl⟩
  have d0 : decide ((L : Int) < (least : Int)) = p := by rw [← hp, decide_eq_decide]; omega
  have d00 := hp
  obtain ⟨q1, d21⟩ : ∃ q, (kk == 21) = q := ⟨_, rfl⟩
  obtain ⟨q2, d22⟩ : ∃ q, (kk == 22) = q := ⟨_, rfl⟩
  have hcc : (p || ((q1 || q2) && !last)) = true := by
   rcases hc with hc | hc
   · rw [← hp, decide_eq_true hc]; rfl
   · have := hc.1
     unfold P.binds at this
     rw [d21, d22] at this
     rw [this, hc.2]
     simp
  have HI0 := Lib.hid h
  have HR0 := Lib.hid hR
  clear hw hnp hf hnm hng hn1 hn2 hn3 hkk hL hc hp h hR
  unfold tv at HI0 ⊢
  cases p <;> cases q1 <;> cases q2 <;> cases last
  all_goals first
   | exact absurd hcc (by decide)
   | skip
  all_goals
   clear hcc
   have HI0 := HI0
   have h := HI0.out
   have hR := HR0.out
   go_enter Tryz.func42, Tryz.ntmps42
   go_upto_region 1 with (fail)
   obtain ⟨W, hW, ps, hbW⟩ := made_blk w #[.int .i64 kk, .string nm, .slice A1 n1 c1, .bool ng, .slice A2 n2 c2, .slice A3 n3 c3] 28
   obtain ⟨g, hg⟩ : ∃ g, g = w.heap.size := ⟨_, rfl⟩
   have HS := Lib.hid (hs.below hB hbW)
   have hs0 := WS.of HS.out.wr
   have hB1 := Nat.le_trans hB hs.bl.size
   have hB2 : B ≤ W.heap.size := Nat.le_trans hB1 hbW.size
   have hgb : g ≠ b := by have := hs.lt; omega
   have hbB := hbW.mono hB1
   have HI := Lib.hid (h.under hR hbB)
   have HR := Lib.hid hR
   clear h hR
   rw [← hW, ← hg]
   rw [← hg] at ps
   clear hW hbW hg hs hB hB1 hbB
   obtain ⟨x0, x1, x2, x3, x4, x5⟩ := ps.six
   go_upto_region 3 with (go_at_call 69; refine (HLV.out _).mono ?_; rintro e w5 ⟨rfl, hw5⟩; obtain rfl := hw5.symm)
   go_upto_region 4 with (go_at_call 70; refine (put_r _ [40] rfl hs0 (by decide) hB2).mono ?_; rintro e w1 ⟨rfl, hs1⟩; clear x0 x1 x2 x3 x4 x5; obtain ⟨x0, x1, x2, x3, x4, x5⟩ := (hs1.blk ps hgb).six)
   go_upto_region 5 with (go_at_call 42; refine (HW.out _ _ R _ W hs1 hB2 HI.out HR.out).mono ?_; rintro e w2 ⟨rfl, hs2⟩; clear x0 x1 x2 x3 x4 x5; obtain ⟨x0, x1, x2, x3, x4, x5⟩ := (hs2.blk ps hgb).six)
   go_wp2_with (go_at_call 70; refine (put_r _ [41] rfl hs2 (by decide) hB2).mono ?_; rintro e w3 ⟨rfl, hs3⟩; clear x0 x1 x2 x3 x4 x5; obtain ⟨x0, x1, x2, x3, x4, x5⟩ := (hs3.blk ps hgb).six)
   refine bodyPost_ret (results_none rfl _ _ _) rfl ?_
   exact ⟨rfl, HS.out.join hs3⟩
theorem form_of (t : T) (hw : BodyR t) : FormR t := by
 intro B b full least last W w R v hs hB h hR
 by_cases hc : P.level t.k < least ∨ (P.binds t.k = true ∧ last = false)
 · rw [formB_par hc]
   exact form_par t hw B b full least last W w R v hc hs hB h hR
 · rw [formB_body hc]
   exact hw B b full least last W w R v hc hs hB h hR
set_option maxHeartbeats 3200000 in
set_option maxRecDepth 100000 in
theorem rbody_7 : BodyR (P.nd 7 []) := by
 intro B b full least last W0 w R v hnp hs hB h hR
 show Calls _ _ _ _ fun e w' => _ ∧ WS B b (full ++ [116, 114, 117, 101]) W0 w'
 rw [P.nd, T.In] at h
 obtain ⟨A1, c1, A2, c2, A3, c3, rfl, -⟩ := h
 obtain ⟨L, hL⟩ : ∃ x, P.level 7 = x := ⟨_, rfl⟩
 have d1 : decide ((L : Int) < (least : Int)) = false := by simp; have : ¬ (P.level 7 < least) := fun h => hnp (.inl h); rw [hL] at this; omega
 have d2 : decide (L < least) = false := by simp; have : ¬ (P.level 7 < least) := fun h => hnp (.inl h); rw [hL] at this; omega
 have HLV := Lib.hid (level_k 7 L hL)
 clear hnp hL
 unfold tv
 simp only [List.length_nil]
 go_enter Tryz.func42, Tryz.ntmps42
 go_upto_region 1 with (fail)
 obtain ⟨W, hW, ps, hbW⟩ := made_blk w #[.int .i64 7, .string ⟨#[]⟩, .slice A1 0 c1, .bool false, .slice A2 0 c2, .slice A3 0 c3] 28
 obtain ⟨g, hg⟩ : ∃ g, g = w.heap.size := ⟨_, rfl⟩
 have HS := Lib.hid (hs.below hB hbW)
 have hs0 := WS.of HS.out.wr
 have hB1 := Nat.le_trans hB hs.bl.size
 have hB2 : B ≤ W.heap.size := Nat.le_trans hB1 hbW.size
 have hgb : g ≠ b := by have := hs.lt; omega
 have hbB := hbW.mono hB1
 clear hR
 rw [← hW, ← hg]
 rw [← hg] at ps
 clear hW hbW hg hs hB hB1 hbB
 obtain ⟨x0, x1, x2, x3, x4, x5⟩ := ps.six
 go_wp2_with (first
  | (go_at_call 69; refine (HLV.out _).mono ?_; rintro e w5 ⟨rfl, hw5⟩; obtain rfl := hw5.symm)
  | (go_at_call 70; refine (put_r _ [116, 114, 117, 101] rfl hs0 (by decide) hB2).mono ?_; rintro e w1 ⟨rfl, hs1⟩; clear x0 x1 x2 x3 x4 x5; obtain ⟨x0, x1, x2, x3, x4, x5⟩ := (hs1.blk ps hgb).six))
 go_end0
 exact ⟨rfl, HS.out.join hs1⟩
set_option maxHeartbeats 3200000 in
set_option maxRecDepth 100000 in
theorem rbody_8 : BodyR (P.nd 8 []) := by
 intro B b full least last W0 w R v hnp hs hB h hR
 show Calls _ _ _ _ fun e w' => _ ∧ WS B b (full ++ [102, 97, 108, 115, 101]) W0 w'
 rw [P.nd, T.In] at h
 obtain ⟨A1, c1, A2, c2, A3, c3, rfl, -⟩ := h
 obtain ⟨L, hL⟩ : ∃ x, P.level 8 = x := ⟨_, rfl⟩
 have d1 : decide ((L : Int) < (least : Int)) = false := by simp; have : ¬ (P.level 8 < least) := fun h => hnp (.inl h); rw [hL] at this; omega
 have d2 : decide (L < least) = false := by simp; have : ¬ (P.level 8 < least) := fun h => hnp (.inl h); rw [hL] at this; omega
 have HLV := Lib.hid (level_k 8 L hL)
 clear hnp hL
 unfold tv
 simp only [List.length_nil]
 go_enter Tryz.func42, Tryz.ntmps42
 go_upto_region 1 with (fail)
 obtain ⟨W, hW, ps, hbW⟩ := made_blk w #[.int .i64 8, .string ⟨#[]⟩, .slice A1 0 c1, .bool false, .slice A2 0 c2, .slice A3 0 c3] 28
 obtain ⟨g, hg⟩ : ∃ g, g = w.heap.size := ⟨_, rfl⟩
 have HS := Lib.hid (hs.below hB hbW)
 have hs0 := WS.of HS.out.wr
 have hB1 := Nat.le_trans hB hs.bl.size
 have hB2 : B ≤ W.heap.size := Nat.le_trans hB1 hbW.size
 have hgb : g ≠ b := by have := hs.lt; omega
 have hbB := hbW.mono hB1
 clear hR
 rw [← hW, ← hg]
 rw [← hg] at ps
 clear hW hbW hg hs hB hB1 hbB
 obtain ⟨x0, x1, x2, x3, x4, x5⟩ := ps.six
 go_wp2_with (first
  | (go_at_call 69; refine (HLV.out _).mono ?_; rintro e w5 ⟨rfl, hw5⟩; obtain rfl := hw5.symm)
  | (go_at_call 70; refine (put_r _ [102, 97, 108, 115, 101] rfl hs0 (by decide) hB2).mono ?_; rintro e w1 ⟨rfl, hs1⟩; clear x0 x1 x2 x3 x4 x5; obtain ⟨x0, x1, x2, x3, x4, x5⟩ := (hs1.blk ps hgb).six))
 go_end0
 exact ⟨rfl, HS.out.join hs1⟩
set_option maxHeartbeats 3200000 in
set_option maxRecDepth 100000 in
theorem rbody_15 (m : List Nat) (hml : m.length ≤ 1048576) (t : T) (ih : SumR t) : BodyR (.node 15 ⟨#[]⟩ [] false m [t]) := by
 intro B b full least last W0 w R v hnp hs hB h hR
 have e : bodyB last (.node 15 ⟨#[]⟩ [] false m [t]) = (N.txt (N.nv m) ++ [32, 100, 105, 118, 105, 100, 101, 115, 32]) ++ termB t false := by
  unfold bodyB
  rw [P.body_div, P.bytes_cons, P.bytes_cons, P.bytes_cons, P.bytes_cons]
  simp [P.itB, termB]
 rw [e, ← List.append_assoc]
 clear e
 have h := hs.In hR h
 rw [T.In] at h
 obtain ⟨A1, c1, A2, c2, A3, c3, rfl, -, hs2, hc3, hk⟩ := h
 obtain ⟨kb, ko, rfl, hRk, hI⟩ := hk (by simp)
 rw [T.Ins] at hI
 obtain ⟨⟨v0, v1, v2, v3, v4, v5, h6, hI0⟩, -⟩ := hI
 have hkB := hR kb hRk
 clear hk
 obtain ⟨S, hS⟩ : ∃ S : ByteArray, S = ⟨(N.txt (N.nv m)).toArray⟩ := ⟨_, rfl⟩
 obtain ⟨l, hl⟩ : ∃ l, N.txt (N.nv m) = l := ⟨_, rfl⟩
 have hz := txt_short hs2 hml
 have HNT := Lib.hid (fun (w : World) (h : SlR w R A2 c2 m) => hS ▸ rtext_l h hml)
 have hSl : (S ++ ⟨#[32, 100, 105, 118, 105, 100, 101, 115, 32]⟩ : ByteArray).data.toList = l ++ [32, 100, 105, 118, 105, 100, 101, 115, 32] := by rw [hS, hl]; simp
 have hSz : S.size = l.length := by rw [hS, hl]; simp [ByteArray.size]
 have hcat : ¬ (9223372036854775807 < S.size + (⟨#[32, 100, 105, 118, 105, 100, 101, 115, 32]⟩ : ByteArray).size) := by have : (⟨#[32, 100, 105, 118, 105, 100, 101, 115, 32]⟩ : ByteArray).size = 9 := rfl; rw [hl] at hz; omega
 have hcat2 : ¬ (9223372036854775807 < S.size + 9) := by rw [hl] at hz; omega
 rw [hl] at hz ⊢
 have HSL := Lib.hid hSl
 have HZ : Hid ((l ++ [32, 100, 105, 118, 105, 100, 101, 115, 32]).length ≤ 70368744177664) := Lib.hid (by rw [List.length_append]; simp only [List.length_cons, List.length_nil]; omega)
 clear hS hl hSl
 obtain ⟨L, hL⟩ : ∃ x, P.level 15 = x := ⟨_, rfl⟩
 have d1 : decide ((L : Int) < (least : Int)) = false := by simp; have : ¬ (P.level 15 < least) := fun h => hnp (.inl h); rw [hL] at this; omega
 have d2 : decide (L < least) = false := by simp; have : ¬ (P.level 15 < least) := fun h => hnp (.inl h); rw [hL] at this; omega
 have HLV := Lib.hid (level_k 15 L hL)
 clear hnp hL
 have IH := Lib.hid ih
 clear ih
 unfold tv
 simp only [List.length_nil, List.length_cons, Nat.zero_add]
 go_enter Tryz.func42, Tryz.ntmps42
 go_upto_region 1 with (fail)
 obtain ⟨W, hW, ps, hbW⟩ := made_blk w #[.int .i64 15, .string ⟨#[]⟩, .slice A1 0 c1, .bool false, .slice A2 m.length c2, .slice (some ⟨kb, ko, none⟩) 1 c3] 28
 obtain ⟨g, hg⟩ : ∃ g, g = w.heap.size := ⟨_, rfl⟩
 have HS := Lib.hid (hs.below hB hbW)
 have hs0 := WS.of HS.out.wr
 have hB1 := Nat.le_trans hB hs.bl.size
 have hB2 : B ≤ W.heap.size := Nat.le_trans hB1 hbW.size
 have hgb : g ≠ b := by have := hs.lt; omega
 have hbB := hbW.mono hB1
 have HS2 := Lib.hid (hs2.under hR hbB)
 clear hs2
 have HI := Lib.hid (hI0.under hR hbB)
 have h6 := h6.keep (fun p v hp hc => (hbB.cell (by rw [hp]; exact hkB)).trans hc)
 have HR := Lib.hid hR
 clear hI0 hR
 rw [← hW, ← hg]
 rw [← hg] at ps
 clear hW hbW hg hs hB hB1 hbB
 obtain ⟨x0, x1, x2, x3, x4, x5⟩ := ps.six
 go_upto_region 15 with (go_at_call 69; refine (HLV.out _).mono ?_; rintro e w5 ⟨rfl, hw5⟩; obtain rfl := hw5.symm)
 go_upto_region 16 with (first | (go_at_call 71; refine (HNT.out _ HS2.out).mono ?_; rintro e w1 ⟨rfl, hb1⟩; have hs1 := hs0.below hB2 hb1; clear x0 x1 x2 x3 x4 x5; obtain ⟨x0, x1, x2, x3, x4, x5⟩ := (hs1.blk ps hgb).six) | (go_at_call 70; refine (put_r _ _ HSL.out hs1 HZ.out hB2).mono ?_; rintro e w2 ⟨rfl, hs2⟩; clear x0 x1 x2 x3 x4 x5; obtain ⟨x0, x1, x2, x3, x4, x5⟩ := (hs2.blk ps hgb).six))
 obtain ⟨y0, y1, y2, y3, y4, y5⟩ := hs2.six hkB h6
 go_wp2_with (go_at_call 72; refine (IH.out B b _ false W _ R _ hs2 hB2 HI.out HR.out).mono ?_; rintro e w3 ⟨rfl, hs3⟩; clear x0 x1 x2 x3 x4 x5; obtain ⟨x0, x1, x2, x3, x4, x5⟩ := (hs3.blk ps hgb).six)
 go_end0
 exact ⟨rfl, HS.out.join hs3⟩
set_option maxHeartbeats 3200000 in
set_option maxRecDepth 100000 in
theorem rbody_16 (t : T) (ih : FormR t) : BodyR (P.nd 16 [t]) := by
 intro B b full least last W0 w R v hnp hs hB h hR
 have e : bodyB last (P.nd 16 [t]) = [110, 111, 116, 32] ++ formB 5 last t := by
  unfold bodyB
  rw [P.body_not, P.bytes_cons, P.bytes_cons]
  rfl
 rw [e, ← List.append_assoc]
 clear e
 have h := hs.In hR h
 rw [P.nd, T.In] at h
 obtain ⟨A1, c1, A2, c2, A3, c3, rfl, -, -, hc3, hk⟩ := h
 obtain ⟨kb, ko, rfl, hRk, hI⟩ := hk (by simp)
 rw [T.Ins] at hI
 obtain ⟨⟨v0, v1, v2, v3, v4, v5, h6, hI0⟩, -⟩ := hI
 have hkB := hR kb hRk
 clear hk
 obtain ⟨L, hL⟩ : ∃ x, P.level 16 = x := ⟨_, rfl⟩
 have d1 : decide ((L : Int) < (least : Int)) = false := by simp; have : ¬ (P.level 16 < least) := fun h => hnp (.inl h); rw [hL] at this; omega
 have d2 : decide (L < least) = false := by simp; have : ¬ (P.level 16 < least) := fun h => hnp (.inl h); rw [hL] at this; omega
 have HLV := Lib.hid (level_k 16 L hL)
 clear hnp hL
 have IH := Lib.hid ih
 clear ih
 unfold tv
 simp only [List.length_nil, List.length_cons, Nat.zero_add]
 go_enter Tryz.func42, Tryz.ntmps42
 go_upto_region 1 with (fail)
 obtain ⟨W, hW, ps, hbW⟩ := made_blk w #[.int .i64 16, .string ⟨#[]⟩, .slice A1 0 c1, .bool false, .slice A2 0 c2, .slice (some ⟨kb, ko, none⟩) 1 c3] 28
 obtain ⟨g, hg⟩ : ∃ g, g = w.heap.size := ⟨_, rfl⟩
 have HS := Lib.hid (hs.below hB hbW)
 have hs0 := WS.of HS.out.wr
 have hB1 := Nat.le_trans hB hs.bl.size
 have hB2 : B ≤ W.heap.size := Nat.le_trans hB1 hbW.size
 have hgb : g ≠ b := by have := hs.lt; omega
 have hbB := hbW.mono hB1
 have HI := Lib.hid (hI0.under hR hbB)
 have h6 := h6.keep (fun p v hp hc => (hbB.cell (by rw [hp]; exact hkB)).trans hc)
 have HR := Lib.hid hR
 clear hI0 hR
 rw [← hW, ← hg]
 rw [← hg] at ps
 clear hW hbW hg hs hB hB1 hbB
 obtain ⟨x0, x1, x2, x3, x4, x5⟩ := ps.six
 go_upto_region 18 with (go_at_call 69; refine (HLV.out _).mono ?_; rintro e w5 ⟨rfl, hw5⟩; obtain rfl := hw5.symm)
 go_upto_region 19 with (go_at_call 70; refine (put_r _ [110, 111, 116, 32] rfl hs0 (by decide) hB2).mono ?_; rintro e w1 ⟨rfl, hs1⟩; clear x0 x1 x2 x3 x4 x5; obtain ⟨x0, x1, x2, x3, x4, x5⟩ := (hs1.blk ps hgb).six)
 obtain ⟨y0, y1, y2, y3, y4, y5⟩ := hs1.six hkB h6
 go_wp2_with (go_at_call 42; refine (IH.out B b _ 5 last W _ R _ hs1 hB2 HI.out HR.out).mono ?_; rintro e w2 ⟨rfl, hs2⟩; clear x0 x1 x2 x3 x4 x5; obtain ⟨x0, x1, x2, x3, x4, x5⟩ := (hs2.blk ps hgb).six)
 go_end0
 exact ⟨rfl, HS.out.join hs2⟩
end
section
open Go.RowKit
open Go.Shelf
attribute [local go_sem] Oper.semAt_some
theorem T.In.kids {w : World} {R : Nat → Prop} {t : T} {v : Value} (h : T.In w R t v) : ∃ A1 c1 A2 c2 A3 c3, v = tv t.k t.nm A1 t.ns.length c1 t.ng A2 t.mg.length c2 A3 t.ks.length c3 ∧ t.ks.length ≤ c3 ∧ (0 < t.ks.length → ∃ b o, A3 = some ⟨b, o, Option.none⟩ ∧ R b ∧ T.Ins w R b o t.ks) := by
 cases t
 rw [T.In] at h
 obtain ⟨A1, c1, A2, c2, A3, c3, e, -, -, h3, h4⟩ := h
 exact ⟨A1, c1, A2, c2, A3, c3, e, h3, h4⟩
theorem WS.drew {B b : Nat} {full : List UInt8} {W w : World} (h : WS B b full W w) : WS B b full W w.drew := ⟨h.wr, h.bl.drew, h.ok.drew⟩
section
variable {P : Program} {md : Region.Mode} {ops : Array Oper} {Q : Exit → Act → World → Prop} {S : World → Prop}
theorem skip_at {fuel : Nat} {listed : Array Bool} {a : Act} {w : World} (i : Nat) (hs : Region.noSelect ops = true) (hf : Region.free md ops listed i = true) (hr : (Region.ready md ops listed).contains i = true)
    (hQ : ∀ c a d v w, Q (.panic c) (a.put d v) w → Q (.panic c) a w) (hex : ∃ o, ops[i]? = some o) (hS : S w)
    (h : ∀ o, ops[i]? = some o → Region.wanted o (yielded ops a.tmps) = false ∧ wpAnyH P md ops Q S fuel (listed.setIfInBounds i true) (a.put o.dst undef) w) :
    wpAnyH P md ops Q S (fuel + 1) listed a w := by
  obtain ⟨o, ho⟩ := hex
  obtain ⟨hy, hrest⟩ := h o ho
  exact wpAnyH_take ho hs hf hr (fun c a w h => hQ c a _ _ w h) (Or.inr ⟨hy, rfl⟩) hS hrest
end
end
end Go.Proofs.YthiadenmljbdaaaGreatDoor

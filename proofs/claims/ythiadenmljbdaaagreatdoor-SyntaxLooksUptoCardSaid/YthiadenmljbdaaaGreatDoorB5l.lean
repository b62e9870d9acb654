/-
  l: the parts LexE LexCR LexF.
-/
import Derived.Test.YthiadenmljbdaaaGreatDoorB4l
namespace Go.Proofs.YthiadenmljbdaaaGreatDoor
section
open Go.RowKit
theorem X.drop_list {S : ByteArray} {a : Nat} : (S.extract a S.size).data.toList = S.data.toList.drop a := by
 rw [← ByteArray.toList_eq, Lib.extract_toList, List.take_of_length_le (by rw [List.length_drop, size_list]; omega)]
theorem X.drop_size {S : ByteArray} {a : Nat} (_ : a ≤ S.size) : (S.extract a S.size).size = S.size - a := by
 rw [← size_list, X.drop_list, List.length_drop, size_list]
def X.tokens (l : List UInt8) : List (Nat × Nat × Nat) × Nat × Nat := if 4096 < l.length then ([], 40, 0) else X.lex l 0
theorem Own.block {w w' : World} {base g n c : Nat} {l : List Nat} (h : Own w base g n c l) (e : w'.heap[g]? = w.heap[g]?) : Own w' base g n c l := by
 refine ⟨⟨h.own.1, ?_⟩, h.lim, h.full.block e⟩
 rcases h.own.2 with ⟨h1, _⟩ | ⟨g', cap, cur, e1, hb, hg, h2⟩
 · cases h1
 · have e2 : g = g' := by injection e1 with e1; injection e1 with e1; injection e1
   subst e2
   exact .inr ⟨_, cap, cur, e1, hb, e.trans hg, h2⟩
theorem MagOf.fr {base : Nat} {w w' : World} {m : Value} {k : Nat} {l : List UInt8} {x : Nat → Prop} (h : MagOf base w m k l) (hf : Fr w w' x) (hx : ∀ g cur, w.heap[g]? = some (.cells cur 69 (0, 0)) → ¬ x g) : MagOf base w' m k l := by
 unfold MagOf at h ⊢
 split
 · rename_i hk
   rw [if_pos hk] at h
   obtain ⟨g, n, c, e, ho⟩ := h
   obtain ⟨cur, hg⟩ := ho.blk
   exact ⟨g, n, c, e, ho.block (hf.block g (Array.getElem?_eq_some_iff.1 hg).1 (hx g cur hg))⟩
 · rename_i hk
   rw [if_neg hk] at h
   exact h
def Toks (w : World) (base : Nat) (l : List UInt8) (rs : List Tk) (ps : List (Nat × Nat × Nat)) : Prop := rs.length = ps.length ∧ ∀ i, i < ps.length → (rs.getD i tk0).1 = (ps.getD i (0, 0, 0)).1 ∧ (rs.getD i tk0).2.2.2 = (ps.getD i (0, 0, 0)).2.1 ∧
 (rs.getD i tk0).2.1.data.toList = (l.drop (ps.getD i (0, 0, 0)).2.1).take (ps.getD i (0, 0, 0)).2.2 ∧ MagOf base w (rs.getD i tk0).2.2.1 (rs.getD i tk0).1 (rs.getD i tk0).2.1.data.toList
theorem Toks.nil (w : World) (base : Nat) (l : List UInt8) : Toks w base l [] [] := ⟨rfl, fun i hi => absurd hi (by simp)⟩
theorem Toks.mags {w w' : World} {base : Nat} {l : List UInt8} {rs : List Tk} {ps : List (Nat × Nat × Nat)} (h : Toks w base l rs ps) (hm : ∀ m k t, MagOf base w m k t → MagOf base w' m k t) : Toks w' base l rs ps :=
 ⟨h.1, fun i hi => by obtain ⟨a, b, c, d⟩ := h.2 i hi; exact ⟨a, b, c, hm _ _ _ d⟩⟩
theorem Toks.below {w w' : World} {base : Nat} {l : List UInt8} {rs : List Tk} {ps : List (Nat × Nat × Nat)} (h : Toks w base l rs ps) (hb : Below w.heap.size w w') : Toks w' base l rs ps := h.mags fun _ _ _ h => h.below hb
theorem Toks.snoc {w : World} {base : Nat} {l : List UInt8} {rs : List Tk} {ps : List (Nat × Nat × Nat)} (h : Toks w base l rs ps) {r : Tk} {p : Nat × Nat × Nat} (h1 : r.1 = p.1) (h2 : r.2.2.2 = p.2.1) (h3 : r.2.1.data.toList = (l.drop p.2.1).take p.2.2) (h4 : MagOf base w r.2.2.1 r.1 r.2.1.data.toList) : Toks w base l (rs ++ [r]) (ps ++ [p]) := by
 refine ⟨by rw [List.length_append, List.length_append, h.1]; rfl, fun i hi => ?_⟩
 rw [List.length_append] at hi
 have hi' : i < ps.length + 1 := hi
 rcases Nat.lt_or_ge i ps.length with hlt | hge
 · have e1 : (rs ++ [r]).getD i tk0 = rs.getD i tk0 := by simp [List.getD, List.getElem?_append_left (by rw [h.1]; exact hlt : i < rs.length)]
   have e2 : (ps ++ [p]).getD i (0, 0, 0) = ps.getD i (0, 0, 0) := by simp [List.getD, List.getElem?_append_left hlt]
   rw [e1, e2]
   exact h.2 i hlt
 · obtain rfl : i = ps.length := by omega
   have e1 : (rs ++ [r]).getD ps.length tk0 = r := by rw [← h.1]; simp [List.getD]
   have e2 : (ps ++ [p]).getD ps.length (0, 0, 0) = p := by simp [List.getD]
   rw [e1, e2]
   exact ⟨h1, h2, h3, h4⟩
theorem blank_idx (c : UInt8) : (0 ≤ Lib.indexByte (⟨#[32, 9, 10, 13]⟩ : ByteArray).data.toList c) ↔ X.blank c = true := by
 rw [idx_mem]; unfold X.blank; simp [or_assoc]
set_option maxRecDepth 100000 in
set_option maxHeartbeats 8000000 in
theorem each_t {w : World} {Bo : Nat} (S : ByteArray) (hB : Blk w Bo 58 #[.slice none 0 0]) :
    Calls Tryz.prog 65 #[.string S, .func (.func 66) #[] #[.pointer (some ⟨Bo, 0, none⟩)]] w fun e w' => ∃ v rs, e = .returned (.agg #[.int .i64 ((X.tokens S.data.toList).2.1 : Nat), .int .i64 ((X.tokens S.data.toList).2.2 : Nat)]) ∧ Blk w' Bo 58 #[v] ∧ OutT w' w.heap.size v rs ∧ Toks w' w.heap.size S.data.toList rs (X.tokens S.data.toList).1 ∧ Fr w w' (fun b => b = Bo) := by
  obtain ⟨t1, t2, t3, ht⟩ : ∃ t1 t2 t3, X.tokens S.data.toList = (t1, t2, t3) := ⟨_, _, _, rfl⟩
  rw [ht]
  dsimp only
  have HT := Lib.hid ht
  clear ht
  have hBlt := hB.lt
  obtain ⟨W, hW, p4, hbW⟩ : ∃ W : World, W = w.alloc (.cells #[.int .i64 0, .int .i64 0] 31) ∧ Blk W w.heap.size 31 #[.int .i64 0, .int .i64 0] ∧ Below w.heap.size w W := ⟨_, rfl, Blk.new _ _ _, below_alloc1 _ _⟩
  have HW := Lib.hid hW
  have hBW := hB.below hbW
  clear hW hB
  by_cases hsz : 4096 < S.size
  ·
   have d1 : decide ((S.size : Int) > 4096) = true := decide_eq_true (by omega)
   have d2 : decide ((4096 : Int) < S.size) = true := decide_eq_true (by omega)
   obtain ⟨⟨f0, f1⟩, c0, c1⟩ := p4.facts2
   go_enter Tryz.func65, Tryz.ntmps65
   go_upto_region 1 with (fail)
   rw [← HW.out]
   go_wp2_with fail
   refine bodyPost_ret (results_cell_row rfl _ _ _ _ _ _ _ rfl (p4.set2 _ _) Tryz.underlying31 rfl sizeMis) rfl ?_
   have e := HT.out
   unfold X.tokens at e
   rw [if_pos (by rw [size_list]; exact hsz)] at e
   injection e with e1 e2
   injection e2 with e2 e3
   subst e1; subst e2; subst e3
   exact ⟨_, [], rfl, (hBW.far (by omega) 0 _).far (by omega) 1 _, OutT.nil _ _, Toks.nil _ _ _, (((Fr.refl w _).below hbW).set (.inr (Nat.le_refl _)) 0 _).set (.inr (Nat.le_refl _)) 1 _⟩
  ·
   have d1 : decide ((S.size : Int) > 4096) = false := decide_eq_false (by omega)
   have d2 : decide ((4096 : Int) < S.size) = false := decide_eq_false (by omega)
   have hlex : X.lex S.data.toList 0 = (t1, t2, t3) := by have e := HT.out; unfold X.tokens at e; rwa [if_neg (by rw [size_list]; exact hsz)] at e
   have HL := Lib.hid hlex
   clear hlex HT
   go_enter Tryz.func65, Tryz.ntmps65
   go_upto_region 1 with (fail)
   rw [← HW.out]
   go_wp2_with fail
   go_loopw [5] (fun v5 wr => ∃ (at_ : Nat) (v : Value) (rs : List Tk) (ps : List (Nat × Nat × Nat)), at_ ≤ S.size ∧ v5 = .int .i64 (at_ : Nat) ∧ Hid (X.lex S.data.toList 0 = (ps ++ (X.lex S.data.toList at_).1, (X.lex S.data.toList at_).2)) ∧ Blk wr Bo 58 #[v] ∧ OutT wr w.heap.size v rs ∧ Toks wr w.heap.size S.data.toList rs ps ∧ Blk wr w.heap.size 31 #[.int .i64 0, .int .i64 0] ∧ Fr w wr (fun b => b = Bo) ∧ ps.length ≤ at_) (fun v5 _ => S.size - (intOf v5).toNat)
   case atStart => exact ⟨0, _, [], [], by omega, rfl, Lib.hid (by simp), hBW, OutT.nil _ _, Toks.nil _ _ _, p4, (Fr.refl w _).below hbW, by simp⟩
   case round =>
    clear hBW p4
    obtain ⟨at_, v, rs, ps, hat, rfl, HLX, hBw, hown, htk, p4, hfr, hps⟩ := hrel
    go_wp2_with fail
    go_loopw [5] (fun v5 wq => ∃ at2 : Nat, at2 ≤ S.size ∧ v5 = .int .i64 (at2 : Nat) ∧ Hid (X.lex S.data.toList at_ = X.lex S.data.toList at2) ∧ at_ ≤ at2 ∧ wr = wq) (fun v5 _ => S.size - (intOf v5).toNat)
    case atStart => exact ⟨at_, hat, rfl, Lib.hid rfl, Nat.le_refl _, rfl⟩
    case round =>
     obtain ⟨at2, hat2, rfl, HLX2, hle, rfl⟩ := hrel
     clear hat
     by_cases hk : at2 < S.size
     ·
      have hb := getD_byte hk
      have HBY := Lib.hid hb
      have hk0 : (0 : Int) ≤ at2 := by omega
      have hki : (at2 : Int) < S.size := by omega
      obtain ⟨I, hI⟩ : ∃ I, Lib.indexByte (⟨#[32, 9, 10, 13]⟩ : ByteArray).data.toList (S[at2]'hk) = I := ⟨_, rfl⟩
      have hbi := blank_idx (S[at2]'hk)
      rw [hI] at hbi
      have HBI := Lib.hid hbi
      clear hb hbi
      cases hbl : X.blank (S[at2]'hk)
      ·
       have dI : decide (I ≥ 0) = false := decide_eq_false (by have := HBI.out; rw [hbl] at this; simp at this; omega)
       have dJ : decide (0 ≤ I) = false := decide_eq_false (by have := HBI.out; rw [hbl] at this; simp at this; omega)
       have dE : ((at2 : Int) == S.size) = false := by simp; omega
       obtain ⟨r1, r2, r3, hR⟩ : ∃ r1 r2 r3, X.one (S.extract at2 S.size).data.toList = (r1, r2, r3) := ⟨_, _, _, rfl⟩
       have hR2 : X.one (S.data.toList.drop at2) = (r1, r2, r3) := by rw [← X.drop_list]; exact hR
       have hds := X.drop_size hat2
       have HRR := Lib.hid hR
       have HR2 := Lib.hid hR2
       have HDS := Lib.hid hds
       have hbl' : X.blank (S.data.toList.getD at2 0) = false := by rw [HBY.out]; exact hbl
       have HBL := Lib.hid hbl'
       clear hR hR2 hds hbl hbl'
       go_upto_region 9 with (first
        | (go_at_call 105; refine (index_s _ _ _).mono ?_; rintro e w2 ⟨rfl, rfl⟩; rw [hI])
        | (go_at_call 106; refine (one_x _ (S.extract at2 S.size) (by rw [HDS.out]; omega) (by rw [HDS.out]; omega) HRR.out).mono ?_; rintro e w2 ⟨T, A, n, c, rfl, hok, hb2⟩))
       have hb6z := hb2.size
       have p6 := Blk.new w2 98 #[.int .i64 (r2 : Nat), .string T, .bool false, .slice A n c, .int .i64 0]
       obtain ⟨W2, hW2, hbW2⟩ : ∃ W2 : World, W2 = w2.alloc (.cells #[.int .i64 (r2 : Nat), .string T, .bool false, .slice A n c, .int .i64 0] 98) ∧ Below w2.heap.size w2 W2 := ⟨_, rfl, below_alloc1 _ _⟩
       rw [← hW2] at p6 ⊢
       obtain ⟨b6, hb6⟩ : ∃ b, b = w2.heap.size := ⟨_, rfl⟩
       have hb6w : w.heap.size < b6 := by have h2 := p4.lt; omega
       have hor : v.ownBlock ≠ some b6 := fun e => by have := (hown.base e).2; omega
       rw [← hb6] at p6 ⊢
       have hbr := below_on hb2 hbW2
       replace p4 := p4.below hbr
       replace hBw := hBw.below hbr
       replace hown := hown.below hbr
       replace htk := htk.below hbr
       have hszW : w.heap.size ≤ W2.heap.size := by have := hfr.size; have := hbr.size; omega
       have hzr := hfr.size
       replace hfr := hfr.below hbr
       clear hW2 hb6
       by_cases h0 : r1 = 0
       ·
        subst h0
        obtain ⟨hT, hmag⟩ := hok rfl
        have hpos := X.one_pos (l := S.data.toList.drop at2) (by rw [HR2.out])
        rw [HR2.out] at hpos
        obtain ⟨hp1, _, hp2⟩ := hpos
        dsimp only at hp1 hp2
        rw [List.length_drop, size_list] at hp2
        have hTs : T.size = r3 := by rw [hT, ext_size (by rw [HDS.out]; exact hp2)]
        have hTl : T.data.toList = (S.data.toList.drop at2).take r3 := by rw [hT, ext_list, X.drop_list]
        subst hTs
        replace hmag := ((hmag.le (base' := w.heap.size) hzr).below hbW2).far p6 (by decide) 4 (.int .i64 (at2 : Nat))
        have HTL := Lib.hid hTl
        have hB3 : Blk (W2.setCell ⟨b6, 4, none⟩ (.int .i64 (at2 : Nat))) Bo 58 #[v] := hBw.far (by omega) 4 _
        have hO3 : OutT (W2.setCell ⟨b6, 4, none⟩ (.int .i64 (at2 : Nat))) w.heap.size v rs := hown.kept (gb_set (World.grownBy.refl _ _) 4 _) (.inr hor)
        have p43 : Blk (W2.setCell ⟨b6, 4, none⟩ (.int .i64 (at2 : Nat))) w.heap.size 31 #[.int .i64 0, .int .i64 0] := p4.far (by omega) 4 _
        have hF3 : Fr w (W2.setCell ⟨b6, 4, none⟩ (.int .i64 (at2 : Nat))) (fun b => b = Bo) := hfr.set (.inr (by omega)) 4 _
        have htk3 : Toks (W2.setCell ⟨b6, 4, none⟩ (.int .i64 (at2 : Nat))) w.heap.size S.data.toList rs ps := htk.mags fun m k t h => h.far p6 (by decide) 4 _
        have hsz3 : w.heap.size ≤ (W2.setCell ⟨b6, 4, none⟩ (.int .i64 (at2 : Nat))).heap.size := by simpa [World.setCell] using hszW
        have hrl : rs.length < 1048576 := by have := htk.1; omega
        have hTi : (at2 : Int) + T.size ≤ S.size := by omega
        have hSi : (S.size : Int) ≤ 4096 := by omega
        obtain ⟨⟨_, _, _, _, f64⟩, c60, c61, c62, c63, c64⟩ := p6.facts
        clear hT hTl hok hfr htk hown hBw p4 hbr hb2 hbW2 hor p6
        go_wp2_with (go_at_call 66; refine (tok1_c (base := w.heap.size) (rs := rs) hB3 hO3 hsz3 r2 at2 n c T A hrl).mono ?_; rintro e w4 ⟨rfl, v', hB4, hO4, hf4⟩)
        have hx : ∀ g cur, (W2.setCell ⟨b6, 4, none⟩ (.int .i64 (at2 : Nat))).heap[g]? = some (.cells cur 69 (0, 0)) → ¬ (g = Bo ∨ v.ownBlock = some g) := fun g cur hg h => by
         rcases h with h | h
         · subst h
           have e2 := hg.symm.trans hB3
           injection e2 with e2
           injection e2 with _ e2 _
           exact absurd e2 (by decide)
         · exact hO3.off (show Blk _ g _ cur from hg) (by decide) h
        have hlx : X.lex S.data.toList 0 = ((ps ++ [(r2, at2, T.size)]) ++ (X.lex S.data.toList (at2 + T.size)).1, (X.lex S.data.toList (at2 + T.size)).2) := by
         rw [HLX.out, HLX2.out, X.lex_tok (by rw [size_list]; exact hk) HBL.out (by rw [HR2.out]), HR2.out]; simp
        have HLXN := Lib.hid hlx
        clear hlx
        go_roundw
        case rel => exact ⟨at2 + T.size, v', rs ++ [(r2, T, .slice A n c, at2)], ps ++ [(r2, at2, T.size)], by omega, by go_num, HLXN, hB4, hO4, (htk3.mags fun m k t h => h.fr hf4 hx).snoc rfl rfl HTL.out (hmag.fr hf4 hx), hf4.blk p43 (fun h => by rcases h with h | h; omega; exact hO3.off p43 (by decide) h), hF3.step hf4 (fun k hk => by rcases hk with h | h; exact .inl h; exact .inr (hO3.base h).1), by rw [List.length_append]; simp; omega⟩
        case measure => simp [intOf]; omega
       · have hne : ((r1 : Int) != 0) = true := by simp; omega
         obtain ⟨⟨f0, f1⟩, c0, c1⟩ := p4.facts2
         go_wp2_with fail
         refine bodyPost_ret (results_cell_row rfl _ _ _ _ _ _ _ rfl (p4.set2 _ _) Tryz.underlying31 rfl sizeMis) rfl ?_
         have e := HL.out
         rw [HLX.out, HLX2.out, X.lex_err (by rw [size_list]; exact hk) HBL.out (by rw [HR2.out]; exact h0), HR2.out] at e
         injection e with e1 e2
         injection e2 with e2 e3
         rw [List.append_nil] at e1
         subst e1; subst e2; subst e3
         exact ⟨_, rs, rfl, (hBw.far (by omega) 0 _).far (by omega) 1 _, (hown.kept (gb_set (World.grownBy.refl _ _) 0 _) (.inr (hown.off p4 (by decide)))).kept (gb_set (World.grownBy.refl _ _) 1 _) (.inr (hown.off p4 (by decide))), htk.mags (fun m k t h => (h.far p4 (by decide) 0 _).far (p4.put 0 _) (by decide) 1 _), (hfr.set (.inr (Nat.le_refl _)) 0 _).set (.inr (Nat.le_refl _)) 1 _⟩
      · have dI : decide (I ≥ 0) = true := decide_eq_true (by have := HBI.out; rw [hbl] at this; simpa using this)
        have dJ : decide (0 ≤ I) = true := decide_eq_true (by have := HBI.out; rw [hbl] at this; simpa using this)
        have hnx : X.lex S.data.toList at_ = X.lex S.data.toList (at2 + 1) := by rw [HLX2.out]; exact X.lex_blank (by rw [size_list]; exact hk) (by rw [HBY.out]; exact hbl)
        have HNX := Lib.hid hnx
        clear hnx hbl
        go_wp2_with (go_at_call 105; refine (index_s _ _ _).mono ?_; rintro e w2 ⟨rfl, rfl⟩; rw [hI])
        go_roundw
        case rel => exact ⟨at2 + 1, by omega, by go_num, HNX, by omega, by trivial⟩
        case measure => simp [intOf]; omega
     ·
      obtain rfl : at2 = S.size := by omega
      have hend : X.lex S.data.toList S.size = ([], 0, 0) := X.lex_end (by rw [size_list]; exact Nat.le_refl _)
      have HEND := Lib.hid hend
      clear hend
      obtain ⟨⟨f0, f1⟩, c0, c1⟩ := p4.facts2
      go_wp2_with fail
      refine bodyPost_ret (results_cell_row rfl _ _ _ _ _ _ _ rfl (p4.set2 _ _) Tryz.underlying31 rfl sizeMis) rfl ?_
      have e := HL.out
      rw [HLX.out, HLX2.out, HEND.out] at e
      injection e with e1 e2
      injection e2 with e2 e3
      rw [List.append_nil] at e1
      subst e1; subst e2; subst e3
      exact ⟨_, rs, rfl, (hBw.far (by omega) 0 _).far (by omega) 1 _, (hown.kept (gb_set (World.grownBy.refl _ _) 0 _) (.inr (hown.off p4 (by decide)))).kept (gb_set (World.grownBy.refl _ _) 1 _) (.inr (hown.off p4 (by decide))), htk.mags (fun m k t h => (h.far p4 (by decide) 0 _).far (p4.put 0 _) (by decide) 1 _), (hfr.set (.inr (Nat.le_refl _)) 0 _).set (.inr (Nat.le_refl _)) 1 _⟩
end
section
open Go.RowKit
def OutR (w : World) (base : Nat) (v : Value) (rs : List Tk) : Prop := (v = .slice none 0 0 ∧ rs = []) ∨
 ∃ g cap cur, v = .slice (some ⟨g, 0, none⟩) rs.length cap ∧ base ≤ g ∧ w.heap[g]? = some (.cells cur 96 (0, 0)) ∧ rs.length ≤ cap ∧ cap ≤ maxLen ∧ cur.toList = tcs rs ++ zs (cap - rs.length)
section
variable {w w' : World} {base : Nat} {v : Value} {rs : List Tk}
theorem OutR.nil (w : World) (base : Nat) : OutR w base (.slice none 0 0) [] := .inl ⟨rfl, rfl⟩
theorem OutR.kept (h : OutR w base v rs) {row : Option Nat} (hg : w.grownBy w' row) (hne : v.ownBlock = none ∨ v.ownBlock ≠ row) : OutR w' base v rs := by
 rcases h with h | ⟨g, cap, cur, rfl, h1, h2, h3⟩
 · exact .inl h
 · refine .inr ⟨g, cap, cur, rfl, h1, (hg.block g (Array.getElem?_eq_some_iff.1 h2).1 ?_).trans h2, h3⟩
   rcases hne with hne | hne
   · cases hne
   · exact hne
theorem OutR.below (h : OutR w base v rs) (hb : Below w.heap.size w w') : OutR w' base v rs := h.kept (gb_of_below hb none) (by cases v.ownBlock <;> simp)
theorem OutR.le (h : OutR w base v rs) {base' : Nat} (hb : base' ≤ base) : OutR w base' v rs := by
 rcases h with h | ⟨g, cap, cur, rfl, h1, h2⟩
 · exact .inl h
 · exact .inr ⟨g, cap, cur, rfl, Nat.le_trans hb h1, h2⟩
theorem OutR.size {g cap : Nat} {cur : Array Value} (hc : cur.toList = tcs rs ++ zs (cap - rs.length)) (hle : rs.length ≤ cap) (_ : w.heap[g]? = some (.cells cur 96 (0, 0))) : cur.size = cap * 5 := by
 have := congrArg List.length hc
 rw [List.length_append, tcs_length, zs_length, Array.length_toList] at this
 omega
theorem OutR.cells (h : OutR w base v rs) (hn : 0 < rs.length) : ∃ g cap, v = .slice (some ⟨g, 0, none⟩) rs.length cap ∧ ∀ i, i < rs.length → ∀ j, j < 5 → w.cell? ⟨g, i * 5 + j, none⟩ = (tk (rs.getD i tk0))[j]? := by
 rcases h with ⟨_, h⟩ | ⟨g, cap, cur, rfl, h1, h2, h3, h4, h5⟩
 · rw [h] at hn; exact absurd hn (by simp)
 · refine ⟨g, cap, rfl, fun i hi j hj => ?_⟩
   rw [cell_of_row _ _ _ _ _ _ h2, ← Array.getElem?_toList, h5, List.getElem?_append_left (by rw [tcs_length]; omega), tcs_get _ _ _ hi hj]
theorem OutR.slice (h : OutR w base v rs) : ∃ A c, v = .slice A rs.length c := by
 rcases h with ⟨rfl, rfl⟩ | ⟨g, cap, cur, rfl, _⟩
 · exact ⟨none, 0, rfl⟩
 · exact ⟨_, _, rfl⟩
end
theorem OutR.off {w : World} {base b : Nat} {v : Value} {rs : List Tk} {t : TypeId} {cs : Array Value} (h : OutR w base v rs) (hp : Blk w b t cs) (ht : t ≠ 96) : v.ownBlock ≠ some b := by
 rcases h with ⟨rfl, _⟩ | ⟨g, cap, cur, rfl, _, h2, _⟩
 · intro e; cases e
 ·
  intro e
  have e1 : g = b := by simpa [Value.ownBlock] using e
  subst e1
  have e2 := h2.symm.trans hp
  injection e2 with e2
  injection e2 with _ e2 _
  exact ht e2.symm
theorem OutR.base {w : World} {base b : Nat} {v : Value} {rs : List Tk} (h : OutR w base v rs) (e : v.ownBlock = some b) : base ≤ b ∧ b < w.heap.size := by
 rcases h with ⟨rfl, _⟩ | ⟨g, cap, cur, rfl, h1, h2, _⟩
 · cases e
 · have e1 : g = b := by simpa [Value.ownBlock] using e
   subst e1
   exact ⟨h1, (Array.getElem?_eq_some_iff.1 h2).1⟩
end
section
open Go.RowKit
theorem Blk.drew {w : World} {b : Nat} {t : TypeId} {cs : Array Value} (h : Blk w b t cs) : Blk w.drew b t cs := h
theorem Toks.le {w : World} {base base' : Nat} {l : List UInt8} {rs : List Tk} {ps : List (Nat × Nat × Nat)} (h : Toks w base l rs ps) (hb : base' ≤ base) : Toks w base' l rs ps :=
 ⟨h.1, fun i hi => by obtain ⟨a, b, c, d⟩ := h.2 i hi; exact ⟨a, b, c, d.le hb⟩⟩
def X.ans (l : List UInt8) : List (Nat × Nat × Nat) × Nat × Nat := if (X.tokens l).2.1 = 0 then X.tokens l else ([], (X.tokens l).2)
theorem results_mis {fn : Func} {p u : Tmp} (h : fn.results = #[.tmp u, .cell p 31]) (tmps : Array Value) (w : World) (g : Nat) (t : TypeId) (a0 a1 : Value)
    (hp : tmps.getD p undef = .pointer (some ⟨g, 0, none⟩)) (hg : Blk w g t #[a0, a1]) :
    (results fn tmps).run Tryz.prog w = .ok (.tuple #[tmps.getD u undef, .agg #[a0, a1]]) w := by
  have hp' : tmps[p]?.getD undef = .pointer (some ⟨g, 0, none⟩) := by simpa using hp
  simp [results, h, hp', asAddr, run_loadVar_row w g _ 31 _ _ _ hg Tryz.underlying31 rfl sizeMis]
set_option maxRecDepth 100000 in
set_option maxHeartbeats 4000000 in
theorem tokens_x (w : World) (S : ByteArray) :
    Calls Tryz.prog 36 #[.string S] w fun e w' => ∃ v rs, e = .returned (.tuple #[v, .agg #[.int .i64 ((X.ans S.data.toList).2.1 : Nat), .int .i64 ((X.ans S.data.toList).2.2 : Nat)]]) ∧ OutT w' w.heap.size v rs ∧ Toks w' w.heap.size S.data.toList rs (X.ans S.data.toList).1 ∧ Below w.heap.size w w' := by
  obtain ⟨t1, t2, t3, ht⟩ : ∃ t1 t2 t3, X.tokens S.data.toList = (t1, t2, t3) := ⟨_, _, _, rfl⟩
  have ha : X.ans S.data.toList = if t2 = 0 then (t1, t2, t3) else ([], t2, t3) := by unfold X.ans; rw [ht]
  obtain ⟨a1, a2, a3, haa⟩ : ∃ a1 a2 a3, X.ans S.data.toList = (a1, a2, a3) := ⟨_, _, _, rfl⟩
  rw [haa] at ha ⊢
  dsimp only
  have HA := Lib.hid ha
  have HT := Lib.hid ht
  clear ha ht haa
  obtain ⟨W, hW, p3, p4, hsz, hbW⟩ : ∃ W : World, W = (w.alloc (.cells #[.int .i64 0, .int .i64 0] 31)).alloc (.cells #[.slice none 0 0] 58) ∧ Blk W w.heap.size 31 #[.int .i64 0, .int .i64 0] ∧ Blk W (w.heap.size + 1) 58 #[.slice none 0 0] ∧ W.heap.size = w.heap.size + 2 ∧ Below w.heap.size w W := by
   refine ⟨_, rfl, (Blk.new w _ _).below (below_alloc1 _ _), ?_, by simp, below_on (below_alloc1 _ _) (below_alloc1 _ _)⟩
   have := Blk.new (w.alloc (.cells #[.int .i64 0, .int .i64 0] 31)) 58 #[.slice none 0 0]
   rwa [show (w.alloc (.cells #[.int .i64 0, .int .i64 0] 31)).heap.size = w.heap.size + 1 by simp] at this
  have HW := Lib.hid hW
  clear hW
  go_enter Tryz.func36, Tryz.ntmps36
  go_upto_region 2 with (fail)
  rw [← HW.out]
  go_upto_region 3 with (go_at_call 65; refine (each_t S p4).mono ?_; rintro e w3 ⟨v, rs, rfl, hB, hown, htk, hfr⟩; rw [HT.out]; rw [HT.out] at htk; dsimp only at htk ⊢)
  have p5 := Blk.new w3 31 #[.int .i64 (t2 : Nat), .int .i64 (t3 : Nat)]
  obtain ⟨W4, hW4, hb4⟩ : ∃ W4 : World, W4 = w3.alloc (.cells #[.int .i64 (t2 : Nat), .int .i64 (t3 : Nat)] 31) ∧ Below w3.heap.size w3 W4 := ⟨_, rfl, below_alloc1 _ _⟩
  rw [← hW4] at p5 ⊢
  obtain ⟨b5, hb5⟩ : ∃ b, b = w3.heap.size := ⟨_, rfl⟩
  rw [← hb5] at p5 ⊢
  have h35 : w.heap.size < b5 := by have := hfr.size; omega
  have hb3 := hfr.size
  replace p3 := (hfr.blk p3 (by omega)).below hb4
  replace hB := hB.below hb4
  obtain ⟨A0, c0, hv⟩ := hown.slice
  subst hv
  replace hown := (hown.below hb4).le (base' := w.heap.size) hbW.size
  replace htk := (htk.below hb4).le (base' := w.heap.size) hbW.size
  have hbw := Fr.below_of (((Fr.refl w (fun b => b = w.heap.size + 1)).below hbW).step (hfr.below hb4) (fun k hk => .inl hk)) (fun k hk => by omega)
  have hoff := hown.off p3 (by decide)
  clear hW4 hb5 hfr p4 hb4 HW hbW
  obtain ⟨⟨f30, f31⟩, c30, c31⟩ := p3.facts2
  obtain ⟨_, c50, c51⟩ := p5.facts2
  have cB := hB.cell 0
  simp only [List.getElem?_toArray, List.getElem?_cons_zero] at cB
  by_cases h0 : t2 = 0
  ·
   have e := HA.out
   rw [if_pos h0] at e
   subst h0
   have HE := Lib.hid e
   clear e
   go_wp2_with fail
   go_region
   all_goals
    go_wp2_with fail
    refine bodyPost_ret (results_mis rfl _ _ _ _ _ _ rfl (p3.drew.set2 _ _)) rfl ?_
    have e := HE.out
    injection e with e1 e2
    injection e2 with e2 e3
    subst e1; subst e2; subst e3
    have hd : Below W4.heap.size W4 W4.drew := (Below.refl _ _).drew
    exact ⟨_, rs, rfl, ((hown.below hd).kept (gb_set (World.grownBy.refl _ _) 0 _) (.inr hoff)).kept (gb_set (World.grownBy.refl _ _) 1 _) (.inr hoff), (htk.below hd).mags (fun m k t h => (h.far p3.drew (by decide) 0 _).far (p3.drew.put 0 _) (by decide) 1 _), ((hbw.trans (hd.mono (hbw.size))).setCell (Nat.le_refl _) _).setCell (Nat.le_refl _) _⟩
  ·
   have e := HA.out
   rw [if_neg h0] at e
   have hne : ((t2 : Int) != 0) = true := by simp; omega
   have HE := Lib.hid e
   clear e h0
   go_wp2_with fail
   go_region
   all_goals
    go_wp2_with fail
    refine bodyPost_ret (results_mis rfl _ _ _ _ _ _ rfl (p3.drew.set2 _ _)) rfl ?_
    have e := HE.out
    injection e with e1 e2
    injection e2 with e2 e3
    subst e1; subst e2; subst e3
    have hd : Below W4.heap.size W4 W4.drew := (Below.refl _ _).drew
    exact ⟨_, [], rfl, OutT.nil _ _, Toks.nil _ _ _, ((hbw.trans (hd.mono (hbw.size))).setCell (Nat.le_refl _) _).setCell (Nat.le_refl _) _⟩
end
end Go.Proofs.YthiadenmljbdaaaGreatDoor

/-
  lex.each with Tokens' closure, lex.Tokens: contracts.
-/
import Derived.Test.YtkioaogpmifgeaaDoorLexD
namespace Go.Proofs.YtkioaogpmifgeaaDoor
open Go.RowKit

theorem X.drop_list {S : ByteArray} {a : Nat} : (S.extract a S.size).data.toList = S.data.toList.drop a := by
  rw [← ByteArray.toList_eq, Lib.extract_toList, List.take_of_length_le (by rw [List.length_drop, size_list]; omega)]
theorem X.drop_size {S : ByteArray} {a : Nat} (_ : a ≤ S.size) : (S.extract a S.size).size = S.size - a := by
  rw [← size_list, X.drop_list, List.length_drop, size_list]
/-- All of Tokens' answer. -/
def X.tokens (l : List UInt8) : List (Nat × Nat × Nat) × Nat × Nat := if 4096 < l.length then ([], 40, 0) else X.lex l 0
theorem Own.block {w w' : World} {base g n c : Nat} {l : List Nat} (h : Own w base g n c l) (e : w'.heap[g]? = w.heap[g]?) : Own w' base g n c l := by
  refine ⟨⟨h.own.1, ?_⟩, h.lim, h.full.block e⟩
  rcases h.own.2 with ⟨h1, _⟩ | ⟨g', cap, cur, e1, hb, hg, h2⟩
  · cases h1
  · have e2 : g = g' := by injection e1 with e1; injection e1 with e1; injection e1
    subst e2
    exact .inr ⟨_, cap, cur, e1, hb, e.trans hg, h2⟩
theorem MagOf.fr {base : Nat} {w w' : World} {m : Value} {k : Nat} {l : List UInt8} {x : Nat → Prop} (h : MagOf base w m k l) (hf : Fr w w' x) (hx : ∀ g cur, w.heap[g]? = some (.cells cur 54 (0, 0)) → ¬ x g) : MagOf base w' m k l := by
  unfold MagOf at h ⊢
  split
  · rename_i hk
    rw [if_pos hk] at h
    obtain ⟨g, n, c, e, ho⟩ := h
    obtain ⟨cur, hg⟩ := ho.blk
    exact ⟨g, n, c, e, ho.block (hf.block g (Array.getElem?_eq_some_iff.1 hg).1 (hx g cur hg))⟩
  · rename_i hk
    rw [if_neg hk] at h
    exact h
/-- The words of l as they lie: kinds, texts, places; the numbers' lists. -/
def Toks (w : World) (base : Nat) (l : List UInt8) (rs : List Tk) (ps : List (Nat × Nat × Nat)) : Prop := rs.length = ps.length ∧ ∀ i, i < ps.length → (rs.getD i tk0).1 = (ps.getD i (0, 0, 0)).1 ∧ (rs.getD i tk0).2.2.2 = (ps.getD i (0, 0, 0)).2.1 ∧
  (rs.getD i tk0).2.1.data.toList = (l.drop (ps.getD i (0, 0, 0)).2.1).take (ps.getD i (0, 0, 0)).2.2 ∧ MagOf base w (rs.getD i tk0).2.2.1 (rs.getD i tk0).1 (rs.getD i tk0).2.1.data.toList
theorem Toks.nil (w : World) (base : Nat) (l : List UInt8) : Toks w base l [] [] := ⟨rfl, fun i hi => absurd hi (by simp)⟩
theorem Toks.mags {w w' : World} {base : Nat} {l : List UInt8} {rs : List Tk} {ps : List (Nat × Nat × Nat)} (h : Toks w base l rs ps) (hm : ∀ m k t, MagOf base w m k t → MagOf base w' m k t) : Toks w' base l rs ps :=
  ⟨h.1, fun i hi => by obtain ⟨a, b, c, d⟩ := h.2 i hi; exact ⟨a, b, c, hm _ _ _ d⟩⟩
theorem Toks.below {w w' : World} {base : Nat} {l : List UInt8} {rs : List Tk} {ps : List (Nat × Nat × Nat)} (h : Toks w base l rs ps) (hb : Below w.heap.size w w') : Toks w' base l rs ps := h.mags fun _ _ _ h => h.below hb
theorem Toks.snoc {w : World} {base : Nat} {l : List UInt8} {rs : List Tk} {ps : List (Nat × Nat × Nat)} (h : Toks w base l rs ps) {r : Tk} {p : Nat × Nat × Nat} (h1 : r.1 = p.1) (h2 : r.2.2.2 = p.2.1) (h3 : r.2.1.data.toList = (l.drop p.2.1).take p.2.2) (h4 : MagOf base w r.2.2.1 r.1 r.2.1.data.toList) : Toks w base l (rs ++ [r]) (ps ++ [p]) := by
  refine ⟨by rw [List.length_append, List.length_append, h.1]; rfl, fun i hi => ?_⟩
  rw [List.length_append] at hi
  have hi' : i < ps.length + 1 := hi
  rcases Nat.lt_or_ge i ps.length with hlt | hge
  · have e1 : (rs ++ [r]).getD i tk0 = rs.getD i tk0 := by simp [List.getD, List.getElem?_append_left (by rw [h.1]; exact hlt : i < rs.length)]
    have e2 : (ps ++ [p]).getD i (0, 0, 0) = ps.getD i (0, 0, 0) := by simp [List.getD, List.getElem?_append_left hlt]
    rw [e1, e2]
    exact h.2 i hlt
  · obtain rfl : i = ps.length := by omega
    have e1 : (rs ++ [r]).getD ps.length tk0 = r := by rw [← h.1]; simp [List.getD]
    have e2 : (ps ++ [p]).getD ps.length (0, 0, 0) = p := by simp [List.getD]
    rw [e1, e2]
    exact ⟨h1, h2, h3, h4⟩
theorem blank_idx (c : UInt8) : (0 ≤ Lib.indexByte (⟨#[32, 9, 10, 13]⟩ : ByteArray).data.toList c) ↔ X.blank c = true := by
  rw [idx_mem]; unfold X.blank; simp [or_assoc]
set_option maxRecDepth 100000 in
set_option maxHeartbeats 8000000 in
theorem each_t {w : World} {Bo : Nat} (S : ByteArray) (hB : Blk w Bo 28 #[.slice none 0 0]) :
    Calls Tryd.prog 23 #[.string S, .func (.func 24) #[] #[.pointer (some ⟨Bo, 0, none⟩)]] w fun e w' => ∃ v rs, e = .returned (.agg #[.int .i64 ((X.tokens S.data.toList).2.1 : Nat), .int .i64 ((X.tokens S.data.toList).2.2 : Nat)]) ∧ Blk w' Bo 28 #[v] ∧ OutT w' w.heap.size v rs ∧ Toks w' w.heap.size S.data.toList rs (X.tokens S.data.toList).1 ∧ Fr w w' (fun b => b = Bo) := by
  obtain ⟨t1, t2, t3, ht⟩ : ∃ t1 t2 t3, X.tokens S.data.toList = (t1, t2, t3) := ⟨_, _, _, rfl⟩
  rw [ht]
  dsimp only
  have HT := Lib.hid ht
  clear ht
  have hBlt := hB.lt
  obtain ⟨W, hW, p4, hbW⟩ : ∃ W : World, W = w.alloc (.cells #[.int .i64 0, .int .i64 0] 25) ∧ Blk W w.heap.size 25 #[.int .i64 0, .int .i64 0] ∧ Below w.heap.size w W := ⟨_, rfl, Blk.new _ _ _, below_alloc1 _ _⟩
  have HW := Lib.hid hW
  have hBW := hB.below hbW
  clear hW hB
  by_cases hsz : 4096 < S.size
  · have d1 : decide ((S.size : Int) > 4096) = true := decide_eq_true (by omega)
    have d2 : decide ((4096 : Int) < S.size) = true := decide_eq_true (by omega)
    obtain ⟨⟨f0, f1⟩, c0, c1⟩ := p4.facts2
    go_enter Tryd.func23, Tryd.ntmps23
    go_upto_region 1 with (fail)
    rw [← HW.out]
    go_wp2_with fail
    refine bodyPost_ret (results_cell_row rfl _ _ _ _ _ _ _ rfl (p4.set2 _ _) Tryd.underlying25 rfl sizeMis) rfl ?_
    have e := HT.out
    unfold X.tokens at e
    rw [if_pos (by rw [size_list]; exact hsz)] at e
    injection e with e1 e2
    injection e2 with e2 e3
    subst e1; subst e2; subst e3
    exact ⟨_, [], rfl, (hBW.far (by omega) 0 _).far (by omega) 1 _, OutT.nil _ _, Toks.nil _ _ _, (((Fr.refl w _).below hbW).set (.inr (Nat.le_refl _)) 0 _).set (.inr (Nat.le_refl _)) 1 _⟩
  · have d1 : decide ((S.size : Int) > 4096) = false := decide_eq_false (by omega)
    have d2 : decide ((4096 : Int) < S.size) = false := decide_eq_false (by omega)
    have hlex : X.lex S.data.toList 0 = (t1, t2, t3) := by have e := HT.out; unfold X.tokens at e; rwa [if_neg (by rw [size_list]; exact hsz)] at e
    have HL := Lib.hid hlex
    clear hlex HT
    go_enter Tryd.func23, Tryd.ntmps23
    go_upto_region 1 with (fail)
    rw [← HW.out]
    go_wp2_with fail
    go_loopw [5] (fun v5 wr => ∃ (at_ : Nat) (v : Value) (rs : List Tk) (ps : List (Nat × Nat × Nat)), at_ ≤ S.size ∧ v5 = .int .i64 (at_ : Nat) ∧ Hid (X.lex S.data.toList 0 = (ps ++ (X.lex S.data.toList at_).1, (X.lex S.data.toList at_).2)) ∧ Blk wr Bo 28 #[v] ∧ OutT wr w.heap.size v rs ∧ Toks wr w.heap.size S.data.toList rs ps ∧ Blk wr w.heap.size 25 #[.int .i64 0, .int .i64 0] ∧ Fr w wr (fun b => b = Bo) ∧ ps.length ≤ at_) (fun v5 _ => S.size - (intOf v5).toNat)
    case atStart => exact ⟨0, _, [], [], by omega, rfl, Lib.hid (by simp), hBW, OutT.nil _ _, Toks.nil _ _ _, p4, (Fr.refl w _).below hbW, by simp⟩
    case round =>
      clear hBW p4
      obtain ⟨at_, v, rs, ps, hat, rfl, HLX, hBw, hown, htk, p4, hfr, hps⟩ := hrel
      go_wp2_with fail
      go_loopw [5] (fun v5 wq => ∃ at2 : Nat, at2 ≤ S.size ∧ v5 = .int .i64 (at2 : Nat) ∧ Hid (X.lex S.data.toList at_ = X.lex S.data.toList at2) ∧ at_ ≤ at2 ∧ wr = wq) (fun v5 _ => S.size - (intOf v5).toNat)
      case atStart => exact ⟨at_, hat, rfl, Lib.hid rfl, Nat.le_refl _, rfl⟩
      case round =>
        obtain ⟨at2, hat2, rfl, HLX2, hle, rfl⟩ := hrel
        clear hat
        by_cases hk : at2 < S.size
        · have hb := getD_byte hk
          have HBY := Lib.hid hb
          have hk0 : (0 : Int) ≤ at2 := by omega
          have hki : (at2 : Int) < S.size := by omega
          obtain ⟨I, hI⟩ : ∃ I, Lib.indexByte (⟨#[32, 9, 10, 13]⟩ : ByteArray).data.toList (S[at2]'hk) = I := ⟨_, rfl⟩
          have hbi := blank_idx (S[at2]'hk)
          rw [hI] at hbi
          have HBI := Lib.hid hbi
          clear hb hbi
          cases hbl : X.blank (S[at2]'hk)
          · have dI : decide (I ≥ 0) = false := decide_eq_false (by have := HBI.out; rw [hbl] at this; simp at this; omega)
            have dJ : decide (0 ≤ I) = false := decide_eq_false (by have := HBI.out; rw [hbl] at this; simp at this; omega)
            have dE : ((at2 : Int) == S.size) = false := by simp; omega
            obtain ⟨r1, r2, r3, hR⟩ : ∃ r1 r2 r3, X.one (S.extract at2 S.size).data.toList = (r1, r2, r3) := ⟨_, _, _, rfl⟩
            have hR2 : X.one (S.data.toList.drop at2) = (r1, r2, r3) := by rw [← X.drop_list]; exact hR
            have hds := X.drop_size hat2
            have HRR := Lib.hid hR
            have HR2 := Lib.hid hR2
            have HDS := Lib.hid hds
            have hbl' : X.blank (S.data.toList.getD at2 0) = false := by rw [HBY.out]; exact hbl
            have HBL := Lib.hid hbl'
            clear hR hR2 hds hbl hbl'
            go_upto_region 9 with (first
              | (go_at_call 34; refine (index_s _ _ _).mono ?_; rintro e w2 ⟨rfl, rfl⟩; rw [hI])
              | (go_at_call 35; refine (one_x _ (S.extract at2 S.size) (by rw [HDS.out]; omega) (by rw [HDS.out]; omega) HRR.out).mono ?_; rintro e w2 ⟨T, A, n, c, rfl, hok, hb2⟩))
            have hb6z := hb2.size
            have p6 := Blk.new w2 44 #[.int .i64 (r2 : Nat), .string T, .bool false, .slice A n c, .int .i64 0]
            obtain ⟨W2, hW2, hbW2⟩ : ∃ W2 : World, W2 = w2.alloc (.cells #[.int .i64 (r2 : Nat), .string T, .bool false, .slice A n c, .int .i64 0] 44) ∧ Below w2.heap.size w2 W2 := ⟨_, rfl, below_alloc1 _ _⟩
            rw [← hW2] at p6 ⊢
            obtain ⟨b6, hb6⟩ : ∃ b, b = w2.heap.size := ⟨_, rfl⟩
            have hb6w : w.heap.size < b6 := by have h2 := p4.lt; omega
            have hor : v.ownBlock ≠ some b6 := fun e => by have := (hown.base e).2; omega
            rw [← hb6] at p6 ⊢
            have hbr := below_on hb2 hbW2
            replace p4 := p4.below hbr
            replace hBw := hBw.below hbr
            replace hown := hown.below hbr
            replace htk := htk.below hbr
            have hszW : w.heap.size ≤ W2.heap.size := by have := hfr.size; have := hbr.size; omega
            have hzr := hfr.size
            replace hfr := hfr.below hbr
            clear hW2 hb6
            by_cases h0 : r1 = 0
            · subst h0
              obtain ⟨hT, hmag⟩ := hok rfl
              have hpos := X.one_pos (l := S.data.toList.drop at2) (by rw [HR2.out])
              rw [HR2.out] at hpos
              obtain ⟨hp1, _, hp2⟩ := hpos
              dsimp only at hp1 hp2
              rw [List.length_drop, size_list] at hp2
              have hTs : T.size = r3 := by rw [hT, ext_size (by rw [HDS.out]; exact hp2)]
              have hTl : T.data.toList = (S.data.toList.drop at2).take r3 := by rw [hT, ext_list, X.drop_list]
              subst hTs
              replace hmag := ((hmag.le (base' := w.heap.size) hzr).below hbW2).far p6 (by decide) 4 (.int .i64 (at2 : Nat))
              have HTL := Lib.hid hTl
              have hB3 : Blk (W2.setCell ⟨b6, 4, none⟩ (.int .i64 (at2 : Nat))) Bo 28 #[v] := hBw.far (by omega) 4 _
              have hO3 : OutT (W2.setCell ⟨b6, 4, none⟩ (.int .i64 (at2 : Nat))) w.heap.size v rs := hown.kept (gb_set (World.grownBy.refl _ _) 4 _) (.inr hor)
              have p43 : Blk (W2.setCell ⟨b6, 4, none⟩ (.int .i64 (at2 : Nat))) w.heap.size 25 #[.int .i64 0, .int .i64 0] := p4.far (by omega) 4 _
              have hF3 : Fr w (W2.setCell ⟨b6, 4, none⟩ (.int .i64 (at2 : Nat))) (fun b => b = Bo) := hfr.set (.inr (by omega)) 4 _
              have htk3 : Toks (W2.setCell ⟨b6, 4, none⟩ (.int .i64 (at2 : Nat))) w.heap.size S.data.toList rs ps := htk.mags fun m k t h => h.far p6 (by decide) 4 _
              have hsz3 : w.heap.size ≤ (W2.setCell ⟨b6, 4, none⟩ (.int .i64 (at2 : Nat))).heap.size := by simpa [World.setCell] using hszW
              have hrl : rs.length < 1048576 := by have := htk.1; omega
              have hTi : (at2 : Int) + T.size ≤ S.size := by omega
              have hSi : (S.size : Int) ≤ 4096 := by omega
              obtain ⟨⟨_, _, _, _, f64⟩, c60, c61, c62, c63, c64⟩ := p6.facts
              clear hT hTl hok hfr htk hown hBw p4 hbr hb2 hbW2 hor p6
              go_wp2_with (go_at_call 24; refine (tok1_c (base := w.heap.size) (rs := rs) hB3 hO3 hsz3 r2 at2 n c T A hrl).mono ?_; rintro e w4 ⟨rfl, v', hB4, hO4, hf4⟩)
              have hx : ∀ g cur, (W2.setCell ⟨b6, 4, none⟩ (.int .i64 (at2 : Nat))).heap[g]? = some (.cells cur 54 (0, 0)) → ¬ (g = Bo ∨ v.ownBlock = some g) := fun g cur hg h => by
                rcases h with h | h
                · subst h
                  have e2 := hg.symm.trans hB3
                  injection e2 with e2
                  injection e2 with _ e2 _
                  exact absurd e2 (by decide)
                · exact hO3.off (show Blk _ g _ cur from hg) (by decide) h
              have hlx : X.lex S.data.toList 0 = ((ps ++ [(r2, at2, T.size)]) ++ (X.lex S.data.toList (at2 + T.size)).1, (X.lex S.data.toList (at2 + T.size)).2) := by
                rw [HLX.out, HLX2.out, X.lex_tok (by rw [size_list]; exact hk) HBL.out (by rw [HR2.out]), HR2.out]; simp
              have HLXN := Lib.hid hlx
              clear hlx
              go_roundw
              case rel => exact ⟨at2 + T.size, v', rs ++ [(r2, T, .slice A n c, at2)], ps ++ [(r2, at2, T.size)], by omega, by go_num, HLXN, hB4, hO4, (htk3.mags fun m k t h => h.fr hf4 hx).snoc rfl rfl HTL.out (hmag.fr hf4 hx), hf4.blk p43 (fun h => by rcases h with h | h; omega; exact hO3.off p43 (by decide) h), hF3.step hf4 (fun k hk => by rcases hk with h | h; exact .inl h; exact .inr (hO3.base h).1), by rw [List.length_append]; simp; omega⟩
              case measure => simp [intOf]; omega
            · have hne : ((r1 : Int) != 0) = true := by simp; omega
              obtain ⟨⟨f0, f1⟩, c0, c1⟩ := p4.facts2
              go_wp2_with fail
              refine bodyPost_ret (results_cell_row rfl _ _ _ _ _ _ _ rfl (p4.set2 _ _) Tryd.underlying25 rfl sizeMis) rfl ?_
              have e := HL.out
              rw [HLX.out, HLX2.out, X.lex_err (by rw [size_list]; exact hk) HBL.out (by rw [HR2.out]; exact h0), HR2.out] at e
              injection e with e1 e2
              injection e2 with e2 e3
              rw [List.append_nil] at e1
              subst e1; subst e2; subst e3
              exact ⟨_, rs, rfl, (hBw.far (by omega) 0 _).far (by omega) 1 _, (hown.kept (gb_set (World.grownBy.refl _ _) 0 _) (.inr (hown.off p4 (by decide)))).kept (gb_set (World.grownBy.refl _ _) 1 _) (.inr (hown.off p4 (by decide))), htk.mags (fun m k t h => (h.far p4 (by decide) 0 _).far (p4.put 0 _) (by decide) 1 _), (hfr.set (.inr (Nat.le_refl _)) 0 _).set (.inr (Nat.le_refl _)) 1 _⟩
          · have dI : decide (I ≥ 0) = true := decide_eq_true (by have := HBI.out; rw [hbl] at this; simpa using this)
            have dJ : decide (0 ≤ I) = true := decide_eq_true (by have := HBI.out; rw [hbl] at this; simpa using this)
            have hnx : X.lex S.data.toList at_ = X.lex S.data.toList (at2 + 1) := by rw [HLX2.out]; exact X.lex_blank (by rw [size_list]; exact hk) (by rw [HBY.out]; exact hbl)
            have HNX := Lib.hid hnx
            clear hnx hbl
            go_wp2_with (go_at_call 34; refine (index_s _ _ _).mono ?_; rintro e w2 ⟨rfl, rfl⟩; rw [hI])
            go_roundw
            case rel => exact ⟨at2 + 1, by omega, by go_num, HNX, by omega, by trivial⟩
            case measure => simp [intOf]; omega
        · obtain rfl : at2 = S.size := by omega
          have hend : X.lex S.data.toList S.size = ([], 0, 0) := X.lex_end (by rw [size_list]; exact Nat.le_refl _)
          have HEND := Lib.hid hend
          clear hend
          obtain ⟨⟨f0, f1⟩, c0, c1⟩ := p4.facts2
          go_wp2_with fail
          refine bodyPost_ret (results_cell_row rfl _ _ _ _ _ _ _ rfl (p4.set2 _ _) Tryd.underlying25 rfl sizeMis) rfl ?_
          have e := HL.out
          rw [HLX.out, HLX2.out, HEND.out] at e
          injection e with e1 e2
          injection e2 with e2 e3
          rw [List.append_nil] at e1
          subst e1; subst e2; subst e3
          exact ⟨_, rs, rfl, (hBw.far (by omega) 0 _).far (by omega) 1 _, (hown.kept (gb_set (World.grownBy.refl _ _) 0 _) (.inr (hown.off p4 (by decide)))).kept (gb_set (World.grownBy.refl _ _) 1 _) (.inr (hown.off p4 (by decide))), htk.mags (fun m k t h => (h.far p4 (by decide) 0 _).far (p4.put 0 _) (by decide) 1 _), (hfr.set (.inr (Nat.le_refl _)) 0 _).set (.inr (Nat.le_refl _)) 1 _⟩
end Go.Proofs.YtkioaogpmifgeaaDoor

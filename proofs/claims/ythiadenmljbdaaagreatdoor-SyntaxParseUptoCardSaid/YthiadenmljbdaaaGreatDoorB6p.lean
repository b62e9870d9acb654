/-
  p: the parts LexF LexP LexQ.
-/
import Derived.Test.YthiadenmljbdaaaGreatDoorB5p
namespace Go.Proofs.YthiadenmljbdaaaGreatDoor
section
open Go.RowKit
theorem Blk.drew {w : World} {b : Nat} {t : TypeId} {cs : Array Value} (h : Blk w b t cs) : Blk w.drew b t cs := h
theorem Toks.le {w : World} {base base' : Nat} {l : List UInt8} {rs : List Tk} {ps : List (Nat × Nat × Nat)} (h : Toks w base l rs ps) (hb : base' ≤ base) : Toks w base' l rs ps :=
 ⟨h.1, fun i hi => by obtain ⟨a, b, c, d⟩ := h.2 i hi; exact ⟨a, b, c, d.le hb⟩⟩
def X.ans (l : List UInt8) : List (Nat × Nat × Nat) × Nat × Nat := if (X.tokens l).2.1 = 0 then X.tokens l else ([], (X.tokens l).2)
theorem results_mis {fn : Func} {p u : Tmp} (h : fn.results = #[.tmp u, .cell p 31]) (tmps : Array Value) (w : World) (g : Nat) (t : TypeId) (a0 a1 : Value)
    (hp : tmps.getD p undef = .pointer (some ⟨g, 0, none⟩)) (hg : Blk w g t #[a0, a1]) :
    (results fn tmps).run Tryz.prog w = .ok (.tuple #[tmps.getD u undef, .agg #[a0, a1]]) w := by
  have hp' : tmps[p]?.getD undef = .pointer (some ⟨g, 0, none⟩) := by simpa using hp
  simp [results, h, hp', asAddr, run_loadVar_row w g _ 31 _ _ _ hg Tryz.underlying31 rfl sizeMis]
set_option maxRecDepth 100000 in
set_option maxHeartbeats 4000000 in
theorem tokens_x (w : World) (S : ByteArray) :
    Calls Tryz.prog 36 #[.string S] w fun e w' => ∃ v rs, e = .returned (.tuple #[v, .agg #[.int .i64 ((X.ans S.data.toList).2.1 : Nat), .int .i64 ((X.ans S.data.toList).2.2 : Nat)]]) ∧ OutT w' w.heap.size v rs ∧ Toks w' w.heap.size S.data.toList rs (X.ans S.data.toList).1 ∧ Below w.heap.size w w' := by
  obtain ⟨t1, t2, t3, ht⟩ : ∃ t1 t2 t3, X.tokens S.data.toList = (t1, t2, t3) := ⟨_, _, _, rfl⟩
  have ha : X.ans S.data.toList = if t2 = 0 then (t1, t2, t3) else ([], t2, t3) := by unfold X.ans; rw [ht]
  obtain ⟨a1, a2, a3, haa⟩ : ∃ a1 a2 a3, X.ans S.data.toList = (a1, a2, a3) := ⟨_, _, _, rfl⟩
  rw [haa] at ha ⊢
  dsimp only
  have HA := Lib.hid ha
  have HT := Lib.hid ht
  clear ha ht haa
  obtain ⟨W, hW, p3, p4, hsz, hbW⟩ : ∃ W : World, W = (w.alloc (.cells #[.int .i64 0, .int .i64 0] 31)).alloc (.cells #[.slice none 0 0] 58) ∧ Blk W w.heap.size 31 #[.int .i64 0, .int .i64 0] ∧ Blk W (w.heap.size + 1) 58 #[.slice none 0 0] ∧ W.heap.size = w.heap.size + 2 ∧ Below w.heap.size w W := by
   refine ⟨_, rfl, (Blk.new w _ _).below (below_alloc1 _ _), ?_, by simp, below_on (below_alloc1 _ _) (below_alloc1 _ _)⟩
   have := Blk.new (w.alloc (.cells #[.int .i64 0, .int .i64 0] 31)) 58 #[.slice none 0 0]
   rwa [show (w.alloc (.cells #[.int .i64 0, .int .i64 0] 31)).heap.size = w.heap.size + 1 by simp] at this
  have HW := Lib.hid hW
  clear hW
  go_enter Tryz.func36, Tryz.ntmps36
  go_upto_region 2 with (fail)
  rw [← HW.out]
  go_upto_region 3 with (go_at_call 65; refine (each_t S p4).mono ?_; rintro e w3 ⟨v, rs, rfl, hB, hown, htk, hfr⟩; rw [HT.out]; rw [HT.out] at htk; dsimp only at htk ⊢)
  have p5 := Blk.new w3 31 #[.int .i64 (t2 : Nat), .int .i64 (t3 : Nat)]
  obtain ⟨W4, hW4, hb4⟩ : ∃ W4 : World, W4 = w3.alloc (.cells #[.int .i64 (t2 : Nat), .int .i64 (t3 : Nat)] 31) ∧ Below w3.heap.size w3 W4 := ⟨_, rfl, below_alloc1 _ _⟩
  rw [← hW4] at p5 ⊢
  obtain ⟨b5, hb5⟩ : ∃ b, b = w3.heap.size := ⟨_, rfl⟩
  rw [← hb5] at p5 ⊢
  have h35 : w.heap.size < b5 := by have := hfr.size; omega
  have hb3 := hfr.size
  replace p3 := (hfr.blk p3 (by omega)).below hb4
  replace hB := hB.below hb4
  obtain ⟨A0, c0, hv⟩ := hown.slice
  subst hv
  replace hown := (hown.below hb4).le (base' := w.heap.size) hbW.size
  replace htk := (htk.below hb4).le (base' := w.heap.size) hbW.size
  have hbw := Fr.below_of (((Fr.refl w (fun b => b = w.heap.size + 1)).below hbW).step (hfr.below hb4) (fun k hk => .inl hk)) (fun k hk => by omega)
  have hoff := hown.off p3 (by decide)
  clear hW4 hb5 hfr p4 hb4 HW hbW
  obtain ⟨⟨f30, f31⟩, c30, c31⟩ := p3.facts2
  obtain ⟨_, c50, c51⟩ := p5.facts2
  have cB := hB.cell 0
  simp only [List.getElem?_toArray, List.getElem?_cons_zero] at cB
  by_cases h0 : t2 = 0
  ·
   have e := HA.out
   rw [if_pos h0] at e
   subst h0
   have HE := Lib.hid e
   clear e
   go_wp2_with fail
   go_region
   all_goals
    go_wp2_with fail
    refine bodyPost_ret (results_mis rfl _ _ _ _ _ _ rfl (p3.drew.set2 _ _)) rfl ?_
    have e := HE.out
    injection e with e1 e2
    injection e2 with e2 e3
    subst e1; subst e2; subst e3
    have hd : Below W4.heap.size W4 W4.drew := (Below.refl _ _).drew
    exact ⟨_, rs, rfl, ((hown.below hd).kept (gb_set (World.grownBy.refl _ _) 0 _) (.inr hoff)).kept (gb_set (World.grownBy.refl _ _) 1 _) (.inr hoff), (htk.below hd).mags (fun m k t h => (h.far p3.drew (by decide) 0 _).far (p3.drew.put 0 _) (by decide) 1 _), ((hbw.trans (hd.mono (hbw.size))).setCell (Nat.le_refl _) _).setCell (Nat.le_refl _) _⟩
  ·
   have e := HA.out
   rw [if_neg h0] at e
   have hne : ((t2 : Int) != 0) = true := by simp; omega
   have HE := Lib.hid e
   clear e h0
   go_wp2_with fail
   go_region
   all_goals
    go_wp2_with fail
    refine bodyPost_ret (results_mis rfl _ _ _ _ _ _ rfl (p3.drew.set2 _ _)) rfl ?_
    have e := HE.out
    injection e with e1 e2
    injection e2 with e2 e3
    subst e1; subst e2; subst e3
    have hd : Below W4.heap.size W4 W4.drew := (Below.refl _ _).drew
    exact ⟨_, [], rfl, OutT.nil _ _, Toks.nil _ _ _, ((hbw.trans (hd.mono (hbw.size))).setCell (Nat.le_refl _) _).setCell (Nat.le_refl _) _⟩
end
section
open Go.RowKit
theorem X.blank_cases (c : UInt8) : (X.blank c = true ∧ ((c.toNat : Int) == 32) = true) ∨ (X.blank c = true ∧ ((c.toNat : Int) == 9) = true ∧ ((c.toNat : Int) == 32) = false) ∨ (X.blank c = true ∧ ((c.toNat : Int) == 10) = true ∧ ((c.toNat : Int) == 32) = false ∧ ((c.toNat : Int) == 9) = false) ∨ (X.blank c = true ∧ ((c.toNat : Int) == 13) = true ∧ ((c.toNat : Int) == 32) = false ∧ ((c.toNat : Int) == 9) = false ∧ ((c.toNat : Int) == 10) = false) ∨ (X.blank c = false ∧ ((c.toNat : Int) == 32) = false ∧ ((c.toNat : Int) == 9) = false ∧ ((c.toNat : Int) == 10) = false ∧ ((c.toNat : Int) == 13) = false) := by
 unfold X.blank
 by_cases h : c ∈ ([32, 9, 10, 13] : List UInt8)
 · simp only [List.mem_cons, List.not_mem_nil, or_false] at h
   rcases h with rfl | rfl | rfl | rfl <;> decide
 ·
  have h2 := h
  simp only [List.mem_cons, List.not_mem_nil, or_false, not_or] at h2
  obtain ⟨h0, h1, h2, h3⟩ := h2
  right; right; right; right
  refine ⟨by simp [h0, h1, h2, h3], ?_, ?_, ?_, ?_⟩
  all_goals
   simp only [beq_eq_false_iff_ne, ne_eq]
   intro e
   first | exact h0 (UInt8.toNat_inj.1 (show c.toNat = 32 by omega)) | exact h1 (UInt8.toNat_inj.1 (show c.toNat = 9 by omega)) | exact h2 (UInt8.toNat_inj.1 (show c.toNat = 10 by omega)) | exact h3 (UInt8.toNat_inj.1 (show c.toNat = 13 by omega))
theorem X.sub_list {S : ByteArray} {a k : Nat} : (S.extract a (a + k)).data.toList = (S.data.toList.drop a).take k := by
 rw [← ByteArray.toList_eq, Lib.extract_toList, Nat.add_sub_cancel_left]
theorem X.sub_size {S : ByteArray} {a k : Nat} (h : a + k ≤ S.size) : (S.extract a (a + k)).size = k := by
 rw [← size_list, X.sub_list, List.length_take, List.length_drop, size_list]; omega
theorem X.getD_drop (l : List UInt8) (a j : Nat) : (l.drop a).getD j 0 = l.getD (a + j) 0 := by simp [List.getD]
set_option maxRecDepth 100000 in
set_option maxHeartbeats 16000000 in
theorem parts_r (w : World) (S : ByteArray) :
    Calls Tryz.prog 62 #[.string S] w fun e w' => ∃ v rs, e = .returned (.tuple #[v, .agg #[.int .i64 ((X.tokens S.data.toList).2.1 : Nat), .int .i64 ((X.tokens S.data.toList).2.2 : Nat)]]) ∧ OutR w' w.heap.size v rs ∧ Toks w' w.heap.size S.data.toList rs (X.tokens S.data.toList).1 ∧ Below w.heap.size w w' := by
  obtain ⟨i0, hi, iz0, iz1, iz2⟩ := info_parts info_rtk
  obtain ⟨t1, t2, t3, ht⟩ : ∃ t1 t2 t3, X.tokens S.data.toList = (t1, t2, t3) := ⟨_, _, _, rfl⟩
  rw [ht]
  dsimp only
  have HT := Lib.hid ht
  clear ht
  obtain ⟨W, hW, p3, hbW⟩ : ∃ W : World, W = w.alloc (.cells #[.int .i64 0, .int .i64 0] 31) ∧ Blk W w.heap.size 31 #[.int .i64 0, .int .i64 0] ∧ Below w.heap.size w W := ⟨_, rfl, Blk.new _ _ _, below_alloc1 _ _⟩
  have HW := Lib.hid hW
  clear hW
  by_cases hsz : 4096 < S.size
  ·
   have d1 : decide ((S.size : Int) > 4096) = true := decide_eq_true (by omega)
   have d2 : decide ((4096 : Int) < S.size) = true := decide_eq_true (by omega)
   obtain ⟨⟨f0, f1⟩, c0, c1⟩ := p3.facts2
   go_enter Tryz.func62, Tryz.ntmps62
   go_upto_region 1 with (fail)
   rw [← HW.out]
   go_wp2_with fail
   refine bodyPost_ret (results_mis rfl _ _ _ _ _ _ rfl (p3.set2 _ _)) rfl ?_
   have e := HT.out
   unfold X.tokens at e
   rw [if_pos (by rw [size_list]; exact hsz)] at e
   injection e with e1 e2
   injection e2 with e2 e3
   subst e1; subst e2; subst e3
   exact ⟨_, [], rfl, OutR.nil _ _, Toks.nil _ _ _, (hbW.setCell (Nat.le_refl _) _).setCell (Nat.le_refl _) _⟩
  ·
   have d1 : decide ((S.size : Int) > 4096) = false := decide_eq_false (by omega)
   have d2 : decide ((4096 : Int) < S.size) = false := decide_eq_false (by omega)
   have hSi : (S.size : Int) ≤ 4096 := by omega
   have hlex : X.lex S.data.toList 0 = (t1, t2, t3) := by have e := HT.out; unfold X.tokens at e; rwa [if_neg (by rw [size_list]; exact hsz)] at e
   have HL := Lib.hid hlex
   clear hlex HT
   go_enter Tryz.func62, Tryz.ntmps62
   go_upto_region 1 with (fail)
   rw [← HW.out]
   go_wp2_with fail
   go_loopw [4, 5] (fun v4 v5 wr => ∃ (at_ : Nat) (v : Value) (rs : List Tk) (ps : List (Nat × Nat × Nat)), at_ ≤ S.size ∧ v5 = .int .i64 (at_ : Nat) ∧ v = v4 ∧ Hid (X.lex S.data.toList 0 = (ps ++ (X.lex S.data.toList at_).1, (X.lex S.data.toList at_).2)) ∧ OutR wr w.heap.size v rs ∧ Toks wr w.heap.size S.data.toList rs ps ∧ Blk wr w.heap.size 31 #[.int .i64 0, .int .i64 0] ∧ Below w.heap.size w wr ∧ ps.length ≤ at_) (fun _ v5 _ => S.size - (intOf v5).toNat)
   case atStart => exact ⟨0, _, [], [], by omega, rfl, rfl, Lib.hid (by simp), OutR.nil _ _, Toks.nil _ _ _, p3, hbW, by simp⟩
   case round =>
    clear p3 hbW
    obtain ⟨at_, v, rs, ps, hat, rfl, rfl, HLX, hown, htk, p3, hbw, hps⟩ := hrel
    have hzr := hbw.size
    by_cases hk : at_ < S.size
    ·
     have hb := getD_byte hk
     have HBY := Lib.hid hb
     have hk0 : (0 : Int) ≤ at_ := by omega
     have hki : (at_ : Int) < S.size := by omega
     clear hb
     rcases X.blank_cases (S[at_]'hk) with ⟨hbl, g0⟩ | ⟨hbl, g0, g1⟩ | ⟨hbl, g0, g1, g2⟩ | ⟨hbl, g0, g1, g2, g3⟩ | ⟨hbl, g0, g1, g2, g3⟩
     iterate 4
      · have hnx : X.lex S.data.toList 0 = (ps ++ (X.lex S.data.toList (at_ + 1)).1, (X.lex S.data.toList (at_ + 1)).2) := by rw [HLX.out, X.lex_blank (by rw [size_list]; exact hk) (by rw [HBY.out]; exact hbl)]
        have HNX := Lib.hid hnx
        clear hnx hbl
        go_wp2_with fail
        go_roundw
        case rel => exact ⟨at_ + 1, _, rs, ps, by omega, by go_num, rfl, HNX, hown, htk, p3, hbw, by omega⟩
        case measure => simp [intOf]; omega
     ·
      have hbl' : X.blank (S.data.toList.getD at_ 0) = false := by rw [HBY.out]; exact hbl
      have HBL := Lib.hid hbl'
      clear hbl hbl'
      go_wp2_with fail
      clear g0 g1 g2 g3
      go_loopw [7] (fun v7 wq => ∃ k : Nat, at_ + k ≤ S.size ∧ v7 = .int .i64 (k : Nat) ∧ Hid (∀ j, j < k → X.rowc ((S.data.toList.drop at_).getD j 0) = true) ∧ wr = wq) (fun v7 _ => S.size - (intOf v7).toNat)
      case atStart => exact ⟨0, by omega, rfl, Lib.hid (fun j hj => by omega), rfl⟩
      case round =>
       obtain ⟨k, hle, rfl, HROW, rfl⟩ := hrel
       by_cases hkn : at_ + k < S.size
       ·
        have hb2 := getD_byte hkn
        rw [← X.getD_drop] at hb2
        have HB2 := Lib.hid hb2
        have hs0 : ((at_ + k : Nat) : Int) < S.size := by omega
        clear hb2
        cases hr : X.rowc (S[at_ + k]'hkn)
        ·
         have hrl0 : X.rowLen (S.data.toList.drop at_) = k := X.rowLen_eq (by rw [List.length_drop, size_list]; omega) HROW.out (.inr (by rw [HB2.out]; exact hr))
         have HRL := Lib.hid hrl0
         clear hrl0
         by_cases hkpos : 0 < k
         ·
          have hkp : (0 : Int) < k := by omega
          have dk1 : decide ((k : Int) > 0) = true := decide_eq_true (by omega)
          have dk2 : decide ((0 : Int) < k) = true := decide_eq_true (by omega)
          have hei : (at_ : Int) + k ≤ S.size := by omega
          obtain ⟨r1, r2, hq⟩ : ∃ r1 r2, X.rowed (S.extract at_ (at_ + k)).data.toList = (r1, r2) := ⟨_, _, rfl⟩
          have hone : X.one (S.data.toList.drop at_) = (r1, r2, k) := by unfold X.one; rw [HRL.out, if_pos hkpos, ← X.sub_list, hq]
          have hss := X.sub_size hle
          have HSS := Lib.hid hss
          have HQ := Lib.hid hq
          have HONE := Lib.hid hone
          clear hss hq hone
          go_upto_region 14 with (first
           | (go_at_call 101; refine (rowc_r _ _).mono ?_; rintro e w3 ⟨rfl, rfl⟩; rw [hr])
           | (go_at_call 102; refine (rowt_r _ (S.extract at_ (at_ + k)) (by rw [HSS.out]; exact hkpos) (by rw [HSS.out]; omega) HQ.out).mono ?_; rintro e w2 ⟨T, A, n, c, rfl, hok, hb2⟩))
          have hb6z := hb2.size
          have p8 := Blk.new w2 96 #[.int .i64 (r2 : Nat), .string T, .bool false, .slice A n c, .int .i64 0]
          obtain ⟨W2, hW2, hbW2⟩ : ∃ W2 : World, W2 = w2.alloc (.cells #[.int .i64 (r2 : Nat), .string T, .bool false, .slice A n c, .int .i64 0] 96) ∧ Below w2.heap.size w2 W2 := ⟨_, rfl, below_alloc1 _ _⟩
          rw [← hW2] at p8 ⊢
          obtain ⟨b8, hb8⟩ : ∃ b, b = w2.heap.size := ⟨_, rfl⟩
          have hb8w : w.heap.size < b8 := by have h2 := p3.lt; omega
          have hor : v.ownBlock ≠ some b8 := fun e => by have := (hown.base e).2; omega
          rw [← hb8] at p8 ⊢
          have hbr := below_on hb2 hbW2
          replace p3 := p3.below hbr
          replace hown := hown.below hbr
          replace htk := htk.below hbr
          replace hbw := below_on hbw hbr
          clear hW2 hb8
          by_cases h0 : r1 = 0
          ·
           subst h0
           obtain ⟨rfl, hmag⟩ := hok rfl
           obtain ⟨T, hT⟩ : ∃ T, T = S.extract at_ (at_ + k) := ⟨_, rfl⟩
           rw [← hT] at hmag p8 ⊢
           have hTl : T.data.toList = (S.data.toList.drop at_).take k := by rw [hT, X.sub_list]
           replace hmag := ((hmag.le (base' := w.heap.size) hzr).below hbW2).far p8 (by decide) 4 (.int .i64 (at_ : Nat))
           have HTL := Lib.hid hTl
           obtain ⟨W3, hW3, hO3, p33, hF3, htk3, hmag3, hsz3⟩ : ∃ W3 : World, W3 = W2.setCell ⟨b8, 4, none⟩ (.int .i64 (at_ : Nat)) ∧ OutR W3 w.heap.size v rs ∧ Blk W3 w.heap.size 31 #[.int .i64 0, .int .i64 0] ∧ Below w.heap.size w W3 ∧ Toks W3 w.heap.size S.data.toList rs ps ∧ MagOf w.heap.size W3 (.slice A n c) r2 T.data.toList ∧ w.heap.size ≤ W3.heap.size :=
            ⟨_, rfl, hown.kept (gb_set (World.grownBy.refl _ _) 4 _) (.inr hor), p3.far (by omega) 4 _, hbw.setCell (by show w.heap.size ≤ b8; omega) _, htk.mags (fun m k t h => h.far p8 (by decide) 4 _), hmag, by have := hbw.size; simpa [World.setCell] using this⟩
           have hsz32 : W3.heap.size = W2.heap.size := by rw [hW3]; simp [World.setCell]
           have p9 : Blk (W3.alloc (.cells #[.int .i64 (r2 : Nat), .string T, .bool false, .slice A n c, .int .i64 (at_ : Nat)] 96)) W2.heap.size 96 #[.int .i64 (r2 : Nat), .string T, .bool false, .slice A n c, .int .i64 (at_ : Nat)] := by have := Blk.new W3 96 #[.int .i64 (r2 : Nat), .string T, .bool false, .slice A n c, .int .i64 (at_ : Nat)]; rwa [hsz32] at this
           have hrl : rs.length < 1048576 := by have := htk.1; omega
           obtain ⟨⟨_, _, _, _, f84⟩, c80, c81, c82, c83, c84⟩ := p8.facts
           clear hT hTl hok htk hown p3 hbr hb2 hbW2 hor hmag hbw
           go_wp2_with (at_builtin; rw [← hW3]; refine wpList_append_rtk _ rfl (.tmp 73) (.tmp 75) 50 rfl w.heap.size i0 Tryz.underlying50 hi iz0 iz1 iz2 _ rs rfl (hO3.below (below_alloc1 _ _)) _ 1 (r2, T, .slice A n c, at_) rfl (tk_cells p9) rfl hrl (Nat.le_trans hsz3 (below_alloc1 _ _).size) ?_; intro g' cap w5 ho5 hg5 hor5)
           have hal3 := hO3.below (below_alloc1 W3 (.cells #[.int .i64 (r2 : Nat), .string T, .bool false, .slice A n c, .int .i64 (at_ : Nat)] 96))
           have hF5 : Fr (W3.alloc (.cells #[.int .i64 (r2 : Nat), .string T, .bool false, .slice A n c, .int .i64 (at_ : Nat)] 96)) w5 (fun b => v.ownBlock = some b) := Fr.grown (Fr.refl _ _) hg5 (fun k hk => .inl hk)
           have hx : ∀ g cur, (W3.alloc (.cells #[.int .i64 (r2 : Nat), .string T, .bool false, .slice A n c, .int .i64 (at_ : Nat)] 96)).heap[g]? = some (.cells cur 69 (0, 0)) → ¬ (v.ownBlock = some g) := fun g cur hg h => hal3.off (show Blk _ g _ cur from hg) (by decide) h
           have p35 := p33.below (below_alloc1 W3 (.cells #[.int .i64 (r2 : Nat), .string T, .bool false, .slice A n c, .int .i64 (at_ : Nat)] 96))
           have hlx : X.lex S.data.toList 0 = ((ps ++ [(r2, at_, k)]) ++ (X.lex S.data.toList (at_ + k)).1, (X.lex S.data.toList (at_ + k)).2) := by
            rw [HLX.out, X.lex_tok (by rw [size_list]; exact hk) HBL.out (by rw [HONE.out]), HONE.out]; simp
           have HLXN := Lib.hid hlx
           clear hlx
           go_roundw
           case rel => exact ⟨at_ + k, _, rs ++ [(r2, T, .slice A n c, at_)], ps ++ [(r2, at_, k)], by omega, by go_num, rfl, HLXN, ho5, ((htk3.below (below_alloc1 _ _)).mags fun m k t h => h.fr hF5 hx).snoc rfl rfl HTL.out ((hmag3.below (below_alloc1 _ _)).fr hF5 hx), gb_blk p35 hg5 (fun e => hal3.off p35 (by decide) e.symm), (hF3.trans ((below_alloc1 _ _).mono hsz3)).grown hg5 (Nat.le_trans hsz3 (below_alloc1 _ _).size) (fun q hq => (hal3.base hq).1), by rw [List.length_append]; simp; omega⟩
           case measure => simp [intOf]; omega
          · have hne : ((r1 : Int) != 0) = true := by simp; omega
            obtain ⟨⟨f0, f1⟩, c0, c1⟩ := p3.facts2
            have hoff := hown.off p3 (by decide)
            go_wp2_with fail
            refine bodyPost_ret (results_mis rfl _ _ _ _ _ _ rfl (p3.set2 _ _)) rfl ?_
            have e := HL.out
            rw [HLX.out, X.lex_err (by rw [size_list]; exact hk) HBL.out (by rw [HONE.out]; exact h0), HONE.out] at e
            injection e with e1 e2
            injection e2 with e2 e3
            rw [List.append_nil] at e1
            subst e1; subst e2; subst e3
            exact ⟨_, rs, rfl, (hown.kept (gb_set (World.grownBy.refl _ _) 0 _) (.inr hoff)).kept (gb_set (World.grownBy.refl _ _) 1 _) (.inr hoff), htk.mags (fun m k t h => (h.far p3 (by decide) 0 _).far (p3.put 0 _) (by decide) 1 _), (hbw.setCell (Nat.le_refl _) _).setCell (Nat.le_refl _) _⟩
         ·
          obtain rfl : k = 0 := by omega
          have hr0 : X.rowc (S[at_]'hk) = false := hr
          clear hr
          obtain ⟨M, hM⟩ : ∃ M, X.sgnLen (S.extract at_ S.size).data.toList = M := ⟨_, rfl⟩
          have hM2 : X.sgnLen (S.data.toList.drop at_) = M := by rw [← X.drop_list]; exact hM
          have hds := X.drop_size hat
          have HDS := Lib.hid hds
          clear hds
          by_cases hM0 : M = 0
          ·
           have hone : X.one (S.data.toList.drop at_) = (30, 0, 0) := by unfold X.one; rw [HRL.out, if_neg (by decide), hM2, if_pos hM0]
           have HONE := Lib.hid hone
           subst hM0
           clear hone hM2
           obtain ⟨⟨f0, f1⟩, c0, c1⟩ := p3.facts2
           have hoff := hown.off p3 (by decide)
           go_wp2_with (first
            | (go_at_call 101; refine (rowc_r _ _).mono ?_; rintro e w3 ⟨rfl, rfl⟩; rw [hr0])
            | (go_at_call 103; refine (sign_r _ (S.extract at_ S.size) (by rw [HDS.out]; omega) (by rw [HDS.out]; omega)).mono ?_; rintro e w3 ⟨rfl, rfl⟩; rw [hM]))
           refine bodyPost_ret (results_mis rfl _ _ _ _ _ _ rfl (p3.set2 _ _)) rfl ?_
           have e := HL.out
           rw [HLX.out, X.lex_err (by rw [size_list]; exact hk) HBL.out (by rw [HONE.out]; decide), HONE.out] at e
           injection e with e1 e2
           injection e2 with e2 e3
           rw [List.append_nil] at e1
           subst e1; subst e2; subst e3
           exact ⟨_, rs, rfl, (hown.kept (gb_set (World.grownBy.refl _ _) 0 _) (.inr hoff)).kept (gb_set (World.grownBy.refl _ _) 1 _) (.inr hoff), htk.mags (fun m k t h => (h.far p3 (by decide) 0 _).far (p3.put 0 _) (by decide) 1 _), (hbw.setCell (Nat.le_refl _) _).setCell (Nat.le_refl _) _⟩
          ·
           have hone : X.one (S.data.toList.drop at_) = (0, 4, M) := by unfold X.one; rw [HRL.out, if_neg (by decide), hM2, if_neg hM0]
           have hpos := (X.one_pos (l := S.data.toList.drop at_) (by rw [hone])).2.2
           rw [hone] at hpos
           dsimp only at hpos
           rw [List.length_drop, size_list] at hpos
           have HONE := Lib.hid hone
           have hMi : ((M : Int) == 0) = false := by simp; omega
           have hei : (at_ : Int) + M ≤ S.size := by omega
           have hTl : (S.extract at_ (at_ + M)).data.toList = (S.data.toList.drop at_).take M := X.sub_list
           have HTL := Lib.hid hTl
           have hrl : rs.length < 1048576 := by have := htk.1; omega
           have hO3 := hown
           have p33 := p3
           have hF3 := hbw
           have htk3 := htk
           have hsz3 := hzr
           clear hone hM2 hown p3 hbw htk hzr hTl
           go_wp2_with (first
            | (go_at_call 101; refine (rowc_r _ _).mono ?_; rintro e w3 ⟨rfl, rfl⟩; rw [hr0])
            | (go_at_call 103; refine (sign_r _ (S.extract at_ S.size) (by rw [HDS.out]; omega) (by rw [HDS.out]; omega)).mono ?_; rintro e w3 ⟨rfl, rfl⟩; rw [hM])
            | (at_builtin; refine wpList_append_rtk _ rfl (.tmp 89) (.tmp 98) 50 rfl w.heap.size i0 Tryz.underlying50 hi iz0 iz1 iz2 _ rs rfl (hO3.below (below_alloc1 _ _)) _ 1 (4, S.extract at_ (at_ + M), .slice none 0 0, at_) rfl (tk_cells (Blk.new _ _ _)) rfl hrl (Nat.le_trans hsz3 (below_alloc1 _ _).size) ?_; intro g' cap w5 ho5 hg5 hor5))
           have hal3 := hO3.below (below_alloc1 wr (.cells #[.int .i64 4, .string (S.extract at_ (at_ + M)), .bool false, .slice none 0 0, .int .i64 (at_ : Nat)] 96))
           have hF5 : Fr (wr.alloc (.cells #[.int .i64 4, .string (S.extract at_ (at_ + M)), .bool false, .slice none 0 0, .int .i64 (at_ : Nat)] 96)) w5 (fun b => v.ownBlock = some b) := Fr.grown (Fr.refl _ _) hg5 (fun k hk => .inl hk)
           have hx : ∀ g cur, (wr.alloc (.cells #[.int .i64 4, .string (S.extract at_ (at_ + M)), .bool false, .slice none 0 0, .int .i64 (at_ : Nat)] 96)).heap[g]? = some (.cells cur 69 (0, 0)) → ¬ (v.ownBlock = some g) := fun g cur hg h => hal3.off (show Blk _ g _ cur from hg) (by decide) h
           have p35 := p33.below (below_alloc1 wr (.cells #[.int .i64 4, .string (S.extract at_ (at_ + M)), .bool false, .slice none 0 0, .int .i64 (at_ : Nat)] 96))
           have hlx : X.lex S.data.toList 0 = ((ps ++ [(4, at_, M)]) ++ (X.lex S.data.toList (at_ + M)).1, (X.lex S.data.toList (at_ + M)).2) := by
            rw [HLX.out, X.lex_tok (by rw [size_list]; exact hk) HBL.out (by rw [HONE.out]), HONE.out]; simp
           have HLXN := Lib.hid hlx
           clear hlx
           go_roundw
           case rel => exact ⟨at_ + M, _, rs ++ [(4, S.extract at_ (at_ + M), .slice none 0 0, at_)], ps ++ [(4, at_, M)], by omega, by go_num, rfl, HLXN, ho5, ((htk3.below (below_alloc1 _ _)).mags fun m k t h => h.fr hF5 hx).snoc rfl rfl HTL.out (MagOf.other (k := 4) (by decide)), gb_blk p35 hg5 (fun e => hal3.off p35 (by decide) e.symm), (hF3.trans ((below_alloc1 _ _).mono hsz3)).grown hg5 (Nat.le_trans hsz3 (below_alloc1 _ _).size) (fun q hq => (hal3.base hq).1), by rw [List.length_append]; simp; omega⟩
           case measure => simp [intOf]; omega
        · have hnx : ∀ j, j < k + 1 → X.rowc ((S.data.toList.drop at_).getD j 0) = true := fun j hj => by
           rcases Nat.lt_or_ge j k with h1 | h1
           · exact HROW.out j h1
           · obtain rfl : j = k := by omega
             rw [HB2.out]; exact hr
          have HNX := Lib.hid hnx
          clear hnx
          go_wp2_with (go_at_call 101; refine (rowc_r _ _).mono ?_; rintro e w3 ⟨rfl, rfl⟩; rw [hr])
          go_roundw
          case rel => exact ⟨k + 1, by omega, by go_num, HNX, by trivial⟩
          case measure => simp [intOf]; omega
       ·
        have hrl0 : X.rowLen (S.data.toList.drop at_) = k := X.rowLen_eq (by rw [List.length_drop, size_list]; omega) HROW.out (.inl (by rw [List.length_drop, size_list]; omega))
        have HRL := Lib.hid hrl0
        clear hrl0
        have hkpos : 0 < k := by omega
        have dl : decide ((at_ : Int) + k < S.size) = false := decide_eq_false (by omega)
        have hkp : (0 : Int) < k := by omega
        have dk1 : decide ((k : Int) > 0) = true := decide_eq_true (by omega)
        have dk2 : decide ((0 : Int) < k) = true := decide_eq_true (by omega)
        have hei : (at_ : Int) + k ≤ S.size := by omega
        obtain ⟨r1, r2, hq⟩ : ∃ r1 r2, X.rowed (S.extract at_ (at_ + k)).data.toList = (r1, r2) := ⟨_, _, rfl⟩
        have hone : X.one (S.data.toList.drop at_) = (r1, r2, k) := by unfold X.one; rw [HRL.out, if_pos hkpos, ← X.sub_list, hq]
        have hss := X.sub_size hle
        have HSS := Lib.hid hss
        have HQ := Lib.hid hq
        have HONE := Lib.hid hone
        clear hss hq hone
        go_upto_region 14 with (first
         | (go_at_call 102; refine (rowt_r _ (S.extract at_ (at_ + k)) (by rw [HSS.out]; exact hkpos) (by rw [HSS.out]; omega) HQ.out).mono ?_; rintro e w2 ⟨T, A, n, c, rfl, hok, hb2⟩))
        have hb6z := hb2.size
        have p8 := Blk.new w2 96 #[.int .i64 (r2 : Nat), .string T, .bool false, .slice A n c, .int .i64 0]
        obtain ⟨W2, hW2, hbW2⟩ : ∃ W2 : World, W2 = w2.alloc (.cells #[.int .i64 (r2 : Nat), .string T, .bool false, .slice A n c, .int .i64 0] 96) ∧ Below w2.heap.size w2 W2 := ⟨_, rfl, below_alloc1 _ _⟩
        rw [← hW2] at p8 ⊢
        obtain ⟨b8, hb8⟩ : ∃ b, b = w2.heap.size := ⟨_, rfl⟩
        have hb8w : w.heap.size < b8 := by have h2 := p3.lt; omega
        have hor : v.ownBlock ≠ some b8 := fun e => by have := (hown.base e).2; omega
        rw [← hb8] at p8 ⊢
        have hbr := below_on hb2 hbW2
        replace p3 := p3.below hbr
        replace hown := hown.below hbr
        replace htk := htk.below hbr
        replace hbw := below_on hbw hbr
        clear hW2 hb8
        by_cases h0 : r1 = 0
        ·
         subst h0
         obtain ⟨rfl, hmag⟩ := hok rfl
         obtain ⟨T, hT⟩ : ∃ T, T = S.extract at_ (at_ + k) := ⟨_, rfl⟩
         rw [← hT] at hmag p8 ⊢
         have hTl : T.data.toList = (S.data.toList.drop at_).take k := by rw [hT, X.sub_list]
         replace hmag := ((hmag.le (base' := w.heap.size) hzr).below hbW2).far p8 (by decide) 4 (.int .i64 (at_ : Nat))
         have HTL := Lib.hid hTl
         obtain ⟨W3, hW3, hO3, p33, hF3, htk3, hmag3, hsz3⟩ : ∃ W3 : World, W3 = W2.setCell ⟨b8, 4, none⟩ (.int .i64 (at_ : Nat)) ∧ OutR W3 w.heap.size v rs ∧ Blk W3 w.heap.size 31 #[.int .i64 0, .int .i64 0] ∧ Below w.heap.size w W3 ∧ Toks W3 w.heap.size S.data.toList rs ps ∧ MagOf w.heap.size W3 (.slice A n c) r2 T.data.toList ∧ w.heap.size ≤ W3.heap.size :=
          ⟨_, rfl, hown.kept (gb_set (World.grownBy.refl _ _) 4 _) (.inr hor), p3.far (by omega) 4 _, hbw.setCell (by show w.heap.size ≤ b8; omega) _, htk.mags (fun m k t h => h.far p8 (by decide) 4 _), hmag, by have := hbw.size; simpa [World.setCell] using this⟩
         have hsz32 : W3.heap.size = W2.heap.size := by rw [hW3]; simp [World.setCell]
         have p9 : Blk (W3.alloc (.cells #[.int .i64 (r2 : Nat), .string T, .bool false, .slice A n c, .int .i64 (at_ : Nat)] 96)) W2.heap.size 96 #[.int .i64 (r2 : Nat), .string T, .bool false, .slice A n c, .int .i64 (at_ : Nat)] := by have := Blk.new W3 96 #[.int .i64 (r2 : Nat), .string T, .bool false, .slice A n c, .int .i64 (at_ : Nat)]; rwa [hsz32] at this
         have hrl : rs.length < 1048576 := by have := htk.1; omega
         obtain ⟨⟨_, _, _, _, f84⟩, c80, c81, c82, c83, c84⟩ := p8.facts
         clear hT hTl hok htk hown p3 hbr hb2 hbW2 hor hmag hbw
         go_wp2_with (at_builtin; rw [← hW3]; refine wpList_append_rtk _ rfl (.tmp 73) (.tmp 75) 50 rfl w.heap.size i0 Tryz.underlying50 hi iz0 iz1 iz2 _ rs rfl (hO3.below (below_alloc1 _ _)) _ 1 (r2, T, .slice A n c, at_) rfl (tk_cells p9) rfl hrl (Nat.le_trans hsz3 (below_alloc1 _ _).size) ?_; intro g' cap w5 ho5 hg5 hor5)
         have hal3 := hO3.below (below_alloc1 W3 (.cells #[.int .i64 (r2 : Nat), .string T, .bool false, .slice A n c, .int .i64 (at_ : Nat)] 96))
         have hF5 : Fr (W3.alloc (.cells #[.int .i64 (r2 : Nat), .string T, .bool false, .slice A n c, .int .i64 (at_ : Nat)] 96)) w5 (fun b => v.ownBlock = some b) := Fr.grown (Fr.refl _ _) hg5 (fun k hk => .inl hk)
         have hx : ∀ g cur, (W3.alloc (.cells #[.int .i64 (r2 : Nat), .string T, .bool false, .slice A n c, .int .i64 (at_ : Nat)] 96)).heap[g]? = some (.cells cur 69 (0, 0)) → ¬ (v.ownBlock = some g) := fun g cur hg h => hal3.off (show Blk _ g _ cur from hg) (by decide) h
         have p35 := p33.below (below_alloc1 W3 (.cells #[.int .i64 (r2 : Nat), .string T, .bool false, .slice A n c, .int .i64 (at_ : Nat)] 96))
         have hlx : X.lex S.data.toList 0 = ((ps ++ [(r2, at_, k)]) ++ (X.lex S.data.toList (at_ + k)).1, (X.lex S.data.toList (at_ + k)).2) := by
          rw [HLX.out, X.lex_tok (by rw [size_list]; exact hk) HBL.out (by rw [HONE.out]), HONE.out]; simp
         have HLXN := Lib.hid hlx
         clear hlx
         go_roundw
         case rel => exact ⟨at_ + k, _, rs ++ [(r2, T, .slice A n c, at_)], ps ++ [(r2, at_, k)], by omega, by go_num, rfl, HLXN, ho5, ((htk3.below (below_alloc1 _ _)).mags fun m k t h => h.fr hF5 hx).snoc rfl rfl HTL.out ((hmag3.below (below_alloc1 _ _)).fr hF5 hx), gb_blk p35 hg5 (fun e => hal3.off p35 (by decide) e.symm), (hF3.trans ((below_alloc1 _ _).mono hsz3)).grown hg5 (Nat.le_trans hsz3 (below_alloc1 _ _).size) (fun q hq => (hal3.base hq).1), by rw [List.length_append]; simp; omega⟩
         case measure => simp [intOf]; omega
        · have hne : ((r1 : Int) != 0) = true := by simp; omega
          obtain ⟨⟨f0, f1⟩, c0, c1⟩ := p3.facts2
          have hoff := hown.off p3 (by decide)
          go_wp2_with fail
          refine bodyPost_ret (results_mis rfl _ _ _ _ _ _ rfl (p3.set2 _ _)) rfl ?_
          have e := HL.out
          rw [HLX.out, X.lex_err (by rw [size_list]; exact hk) HBL.out (by rw [HONE.out]; exact h0), HONE.out] at e
          injection e with e1 e2
          injection e2 with e2 e3
          rw [List.append_nil] at e1
          subst e1; subst e2; subst e3
          exact ⟨_, rs, rfl, (hown.kept (gb_set (World.grownBy.refl _ _) 0 _) (.inr hoff)).kept (gb_set (World.grownBy.refl _ _) 1 _) (.inr hoff), htk.mags (fun m k t h => (h.far p3 (by decide) 0 _).far (p3.put 0 _) (by decide) 1 _), (hbw.setCell (Nat.le_refl _) _).setCell (Nat.le_refl _) _⟩
    ·
     obtain rfl : at_ = S.size := by omega
     have hend : X.lex S.data.toList S.size = ([], 0, 0) := X.lex_end (by rw [size_list]; exact Nat.le_refl _)
     have HEND := Lib.hid hend
     clear hend
     obtain ⟨⟨f0, f1⟩, c0, c1⟩ := p3.facts2
     have hoff := hown.off p3 (by decide)
     obtain ⟨A0, c0', hv⟩ := hown.slice
     subst hv
     go_wp2_with fail
     refine bodyPost_ret (results_mis rfl _ _ _ _ _ _ rfl (p3.set2 _ _)) rfl ?_
     have e := HL.out
     rw [HLX.out, HEND.out] at e
     injection e with e1 e2
     injection e2 with e2 e3
     rw [List.append_nil] at e1
     subst e1; subst e2; subst e3
     exact ⟨_, rs, rfl, (hown.kept (gb_set (World.grownBy.refl _ _) 0 _) (.inr hoff)).kept (gb_set (World.grownBy.refl _ _) 1 _) (.inr hoff), htk.mags (fun m k t h => (h.far p3 (by decide) 0 _).far (p3.put 0 _) (by decide) 1 _), (hbw.setCell (Nat.le_refl _) _).setCell (Nat.le_refl _) _⟩
end
section
open Go.RowKit
set_option maxRecDepth 100000 in
set_option maxHeartbeats 4000000 in
theorem rtokens_r (w : World) (S : ByteArray) :
    Calls Tryz.prog 33 #[.string S] w fun e w' => ∃ v rs, e = .returned (.tuple #[v, .agg #[.int .i64 ((X.ans S.data.toList).2.1 : Nat), .int .i64 ((X.ans S.data.toList).2.2 : Nat)]]) ∧ OutR w' w.heap.size v rs ∧ Toks w' w.heap.size S.data.toList rs (X.ans S.data.toList).1 ∧ Below w.heap.size w w' := by
  obtain ⟨t1, t2, t3, ht⟩ : ∃ t1 t2 t3, X.tokens S.data.toList = (t1, t2, t3) := ⟨_, _, _, rfl⟩
  have ha : X.ans S.data.toList = if t2 = 0 then (t1, t2, t3) else ([], t2, t3) := by unfold X.ans; rw [ht]
  obtain ⟨a1, a2, a3, haa⟩ : ∃ a1 a2 a3, X.ans S.data.toList = (a1, a2, a3) := ⟨_, _, _, rfl⟩
  rw [haa] at ha ⊢
  dsimp only
  have HA := Lib.hid ha
  have HT := Lib.hid ht
  clear ha ht haa
  obtain ⟨W, hW, p3, hbW⟩ : ∃ W : World, W = w.alloc (.cells #[.int .i64 0, .int .i64 0] 31) ∧ Blk W w.heap.size 31 #[.int .i64 0, .int .i64 0] ∧ Below w.heap.size w W := ⟨_, rfl, Blk.new _ _ _, below_alloc1 _ _⟩
  have HW := Lib.hid hW
  clear hW
  go_enter Tryz.func33, Tryz.ntmps33
  go_upto_region 1 with (fail)
  rw [← HW.out]
  go_upto_region 2 with (go_at_call 62; refine (parts_r _ S).mono ?_; rintro e w3 ⟨v, rs, rfl, hown, htk, hb3⟩; rw [HT.out]; rw [HT.out] at htk; dsimp only at htk ⊢)
  have p5 := Blk.new w3 31 #[.int .i64 (t2 : Nat), .int .i64 (t3 : Nat)]
  obtain ⟨W4, hW4, hb4⟩ : ∃ W4 : World, W4 = w3.alloc (.cells #[.int .i64 (t2 : Nat), .int .i64 (t3 : Nat)] 31) ∧ Below w3.heap.size w3 W4 := ⟨_, rfl, below_alloc1 _ _⟩
  rw [← hW4] at p5 ⊢
  obtain ⟨b5, hb5⟩ : ∃ b, b = w3.heap.size := ⟨_, rfl⟩
  rw [← hb5] at p5 ⊢
  have h35 : w.heap.size < b5 := by have := hb3.size; have := p3.lt; omega
  have hb34 := below_on hb3 hb4
  replace p3 := p3.below hb34
  obtain ⟨A0, c0, hv⟩ := hown.slice
  subst hv
  replace hown := (hown.below hb4).le (base' := w.heap.size) hbW.size
  replace htk := (htk.below hb4).le (base' := w.heap.size) hbW.size
  have hbw := below_on hbW hb34
  have hoff := hown.off p3 (by decide)
  clear hW4 hb5 hb34 hb4 hb3 HW hbW
  obtain ⟨⟨f30, f31⟩, c30, c31⟩ := p3.facts2
  obtain ⟨_, c50, c51⟩ := p5.facts2
  have hd : Below W4.heap.size W4 W4.drew := (Below.refl _ _).drew
  by_cases h0 : t2 = 0
  ·
   have e := HA.out
   rw [if_pos h0] at e
   subst h0
   have HE := Lib.hid e
   clear e
   go_wp2_with fail
   go_region
   all_goals
    go_wp2_with fail
    refine bodyPost_ret (results_mis rfl _ _ _ _ _ _ rfl (p3.drew.set2 _ _)) rfl ?_
    have e := HE.out
    injection e with e1 e2
    injection e2 with e2 e3
    subst e1; subst e2; subst e3
    exact ⟨_, rs, rfl, ((hown.below hd).kept (gb_set (World.grownBy.refl _ _) 0 _) (.inr hoff)).kept (gb_set (World.grownBy.refl _ _) 1 _) (.inr hoff), (htk.below hd).mags (fun m k t h => (h.far p3.drew (by decide) 0 _).far (p3.drew.put 0 _) (by decide) 1 _), ((hbw.trans (hd.mono (hbw.size))).setCell (Nat.le_refl _) _).setCell (Nat.le_refl _) _⟩
  ·
   have e := HA.out
   rw [if_neg h0] at e
   have hne : ((t2 : Int) != 0) = true := by simp; omega
   have HE := Lib.hid e
   clear e h0
   go_wp2_with fail
   go_region
   all_goals
    go_wp2_with fail
    refine bodyPost_ret (results_mis rfl _ _ _ _ _ _ rfl (p3.drew.set2 _ _)) rfl ?_
    have e := HE.out
    injection e with e1 e2
    injection e2 with e2 e3
    subst e1; subst e2; subst e3
    exact ⟨_, [], rfl, OutR.nil _ _, Toks.nil _ _ _, ((hbw.trans (hd.mono (hbw.size))).setCell (Nat.le_refl _) _).setCell (Nat.le_refl _) _⟩
end
end Go.Proofs.YthiadenmljbdaaaGreatDoor

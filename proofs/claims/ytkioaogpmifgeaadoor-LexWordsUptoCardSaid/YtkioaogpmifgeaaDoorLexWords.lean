/-
  The walk of riddlelaw03.LexWords: it answers true.
-/
import Derived.Test.YtkioaogpmifgeaaDoorLexH
import Derived.Test.YtkioaogpmifgeaaDoorLexBlanks
import Derived.Deep.CutRange
namespace Go.Proofs.YtkioaogpmifgeaaDoor
open Go.RowKit Go.Shelf
attribute [local go_sem] Oper.semAt_some

theorem func_eq (f : Fn) (a b : Array Value) (w : World) : (binOp .eql 36 (.func f a b) .nilFunc).run Tryd.prog w = .ok (.bool false) w := by
  rfl
theorem run_store_fn {P : Program} (w : World) (a : Addr) (m : Mode) (f : Fn) (ts bs : Array Value) : (store a (.func f ts bs) m).run P w = stored P w a (.func f ts bs) m := run_store P w a _ m rfl
attribute [local go_sem] run_store_fn
theorem results_bool {fn : Func} {p : Tmp} (h : fn.results = #[.cell p 4]) (tmps : Array Value) (w : World) (g : Nat) (b : Bool)
    (hp : tmps.getD p undef = .pointer (some ⟨g, 0, none⟩)) (hc : w.cell? ⟨g, 0, none⟩ = some (.bool b)) :
    (results fn tmps).run Tryd.prog w = .ok (.bool b) w := by
  have hp' : tmps[p]?.getD undef = .pointer (some ⟨g, 0, none⟩) := by simpa using hp
  simp [results, h, hp', go_sem, hc]
theorem OutR.slice2 {w : World} {base : Nat} {v : Value} {rs : List Tk} (h : OutR w base v rs) : ∃ A c, v = .slice A rs.length c ∧ rs.length ≤ c := by
  rcases h with ⟨rfl, rfl⟩ | ⟨g, cap, cur, rfl, _, _, hc, _⟩
  · exact ⟨none, 0, rfl, Nat.le_refl _⟩
  · exact ⟨_, _, rfl, hc⟩
set_option maxRecDepth 100000 in
set_option maxHeartbeats 8000000 in
theorem words_in (n0 : Nat) (w : World) (S : ByteArray) (hS : S.size ≤ 1048576) (z : Int) (hz : I64 z) :
    CallsIn Fence.wide n0 Tryd.prog 4 #[.string S, .int .i64 z] w fun e w' => e = .returned (.bool true) ∧ Below w.heap.size w w' := by
  obtain ⟨t1, code, at_, ht⟩ : ∃ t1 t2 t3, X.tokens S.data.toList = (t1, t2, t3) := ⟨_, _, _, rfl⟩
  have htl0 : t1.length ≤ 4096 := by have := X.tokens_le S.data.toList; rw [ht] at this; exact this
  refine callsIn_of_wp_marks Tryd.func4 rfl trivial ?_ rfl
  simp only [Tryd.ntmps4, List.size_toArray, List.length_cons, List.length_nil, Nat.reduceAdd, Nat.reduceSub, Array.replicate_succ, Array.replicate_zero, List.push_toArray, List.append_toArray, List.nil_append, List.cons_append]
  refine wpIn_wide.2 ?_
  go_upto_region 1 with (fail)
  obtain ⟨W, hW, pR, hbW⟩ : ∃ W : World, W = w.alloc (.cells #[.bool false] 4) ∧ Blk W w.heap.size 4 #[.bool false] ∧ Below w.heap.size w W := ⟨_, rfl, Blk.new _ _ _, below_alloc1 _ _⟩
  obtain ⟨Br, hBr⟩ : ∃ b, b = w.heap.size := ⟨_, rfl⟩
  rw [← hW, ← hBr]
  rw [← hBr] at pR
  have HBR := Lib.hid hBr
  clear hW hBr
  have heq := func_eq
  go_upto_region 3 with (first
    | (go_at_call 12; refine (known_l _).mono ?_; rintro e w2 ⟨rfl, hb2⟩; replace pR := pR.below hb2; replace hbW := below_on hbW hb2)
    | (go_at_call 13; refine (words_x _ S).mono ?_; rintro e w3 ⟨rfl, rfl⟩))
  clear heq
  obtain ⟨W3, hW3, hbm⟩ : ∃ W3 : World, W3 = w2.alloc (.cells #[.string S] 9) ∧ Below w2.heap.size w2 W3 := ⟨_, rfl, below_alloc1 _ _⟩
  rw [← hW3]
  replace pR := pR.below hbm
  replace hbW := below_on hbW hbm
  clear hW3 hbm
  go_upto_if 28 with (go_at_call 14; refine (parts_r _ S).mono ?_; rintro e w4 ⟨vw, rsw, rfl, how, htw, hb4⟩; rw [ht]; rw [ht] at htw; dsimp only at htw ⊢; obtain ⟨Aw, cw, rfl, hcap⟩ := how.slice2)
  obtain ⟨W5, hW5, pW, pM, hb5⟩ : ∃ W5 : World, W5 = (w4.alloc (.cells #[.slice Aw rsw.length cw] 22)).alloc (.cells #[.int .i64 (code : Nat), .int .i64 (at_ : Nat)] 25) ∧ Blk W5 w4.heap.size 22 #[.slice Aw rsw.length cw] ∧ True ∧ Below w4.heap.size w4 W5 := ⟨_, rfl, (Blk.new w4 _ _).below (below_alloc1 _ _), trivial, below_on (below_alloc1 _ _) (below_alloc1 _ _)⟩
  obtain ⟨Bw, hBw⟩ : ∃ b, b = w4.heap.size := ⟨_, rfl⟩
  have hpl := htw.1
  have hlens := htw.lens
  have harr := (rtok_arr how htw).below hb5
  rw [← hW5, ← hBw]
  rw [← hBw] at pW
  replace pR := pR.below (below_on hb4 hb5)
  have hbW5 := below_on hbW (below_on hb4 hb5)
  have hBwl : w.heap.size ≤ Bw := by rw [hBw]; exact Nat.le_trans hbW.size hb4.size
  have HLS := Lib.hid hlens
  have hne : Br ≠ Bw := blk_ne pR pW (by decide)
  clear hW5 hBw how hb4 hb5 hbW hlens
  obtain ⟨m, hm⟩ : ∃ m, t1.length = m := ⟨_, rfl⟩
  rw [hm] at htl0 hpl
  have HM := Lib.hid hm
  rw [hpl] at pW harr hcap ⊢
  clear hpl htw hm
  have hfree := pW.free 0
  have hcw := pW.cell 0
  simp only [List.getElem?_toArray, List.getElem?_cons_zero] at hcw
  go_cut [] from 14 (fun wc => ∃ A c, m ≤ c ∧ Blk wc Bw 22 #[.slice A m c] ∧ ArrT wc (.slice A m c) (X.tks S.data.toList t1) ∧ Blk wc Br 4 #[.bool false] ∧ Below w.heap.size w wc)
  case first =>
    by_cases hsz : 4096 < S.size
    · have d1 : decide ((S.size : Int) > 4096) = true := decide_eq_true (by omega)
      have d2 : decide ((4096 : Int) < S.size) = true := decide_eq_true (by omega)
      have hm0 : t1 = [] := by
        have e := ht
        unfold X.tokens at e
        rw [if_pos (by rw [size_list]; exact hsz)] at e
        injection e with e _
        exact e.symm
      have hm1 : m = 0 := by rw [← HM.out, hm0]; rfl
      go_wp2_with fail
      go_meet
      refine ⟨none, 0, by omega, ?_, ⟨none, 0, by rw [X.tks_len, HM.out, hm1], fun h => by rw [X.tks_len, HM.out, hm1] at h; omega⟩, pR.far hne _ _, hbW5.setCell hBwl _⟩
      rw [hm1]
      exact pW.put 0 _
    · have d1 : decide ((S.size : Int) > 4096) = false := decide_eq_false (by omega)
      have d2 : decide ((4096 : Int) < S.size) = false := decide_eq_false (by omega)
      go_wp2_with fail
      go_meet
      exact ⟨Aw, cw, hcap, pW, harr, pR, hbW5⟩
  case rest =>
    clear pW harr pR hbW5 hfree hcw hcap
    obtain ⟨A, c, hcap, pW, harr, pR, hbw⟩ := hcut
    have hcw := pW.cell 0
    simp only [List.getElem?_toArray, List.getElem?_cons_zero] at hcw
    have hlenm : t1.length = m := HM.out
    have HA := Lib.hid harr
    have HP := Lib.hid (pick_n wc z hz (m + 2) (by omega) (by omega))
    clear harr hlenm
    have hm2 : (m : Int) ≤ 4096 := by omega
    have hmz : ((m : Int) + 2) = ((m + 2 : Nat) : Int) := by omega
    have HMZ := Lib.hid hmz
    clear hmz
    go_upto_if 38 with (go_at_call 15; rw [HMZ.out]; refine HP.out.mono ?_; rintro e w5 ⟨r, rfl, hr, rfl⟩)
    clear HP HMZ
    go_cut [8] from 14 (fun v8 w5 => wc = w5 ∧ ∃ f, f = min r m ∧ v8 = .slice A f c)
    case first =>
      by_cases hrm : r < m
      · have q1 : decide ((r : Int) < m) = true := decide_eq_true (by omega)
        have q2 : (r : Int) ≤ m := by omega
        have q3 : ¬ (c < r) := by omega
        obtain ⟨g, rfl⟩ : ∃ g, A = some ⟨g, 0, none⟩ := by
          obtain ⟨A', c', e, h⟩ := HA.out
          injection e with e1 e2 e3
          obtain ⟨g, h, _⟩ := h (by rw [← e2]; omega)
          exact ⟨g, e1.trans h⟩
        go_wp2_with fail
        go_meet
        exact ⟨rfl, _, by rw [Nat.min_eq_left (by omega)], rfl⟩
      · have q1 : decide ((r : Int) < m) = false := decide_eq_false (by omega)
        go_wp2_with fail
        go_meet
        exact ⟨rfl, _, by rw [Nat.min_eq_right (by omega)], rfl⟩
    case rest =>
      obtain ⟨rfl, f, hf, rfl⟩ := hcut
      have hfm : f ≤ m := by rw [hf]; exact Nat.min_le_right _ _
      have hov1 : ovr t1 (-1) = t1 := by unfold ovr; rw [if_pos (by omega)]
      have hov2 : ovr t1 (r : Nat) = t1.take f := by
        unfold ovr
        rw [if_neg (by omega), hf, ← HM.out, List.take_eq_take_iff]
        simp
      have ha2 : ArrT wc (.slice A f c) (X.tks S.data.toList (ovr t1 (r : Nat))) := by
        rw [hov2, ← X.tks_take]
        exact HA.out.take hfm
      have hl1 : (X.tks S.data.toList t1).length ≤ 1048576 := by rw [X.tks_len, HM.out]; omega
      have hl2 : (X.tks S.data.toList (ovr t1 (r : Nat))).length ≤ 1048576 := by rw [X.tks_len, hov2, List.length_take, HM.out]; omega
      have HA2 := Lib.hid ha2
      have HO1 := Lib.hid hov1
      have HL1 := Lib.hid hl1
      have HL2 := Lib.hid hl2
      have HT := Lib.hid ht
      clear hf hov1 hov2 ha2 hl1 hl2 ht
      have hS0 : ∀ w', Below wc.heap.size wc w' → w'.cell? ⟨Bw, 0, none⟩ = some (.slice A m c) ∧ Below wc.heap.size wc w' := fun w' h => ⟨keep_cell hcw h, h⟩
      have HS0 := Lib.hid hS0
      clear hS0
      have hS := Below.refl wc.heap.size wc
      go_upto_region 10 with (fail)
      go_region_held3 (fun w' => w'.cell? ⟨Bw, 0, none⟩ = some (.slice A m c) ∧ Below wc.heap.size wc w')
        (first | exact HS0.out _ (by with_reducible assumption) | exact HS0.out _ (Below.drew (by with_reducible assumption)))
        (first
          | (go_at_call 10; have := mk3; refine (are_l ((tok_arr (hown.le (Nat.zero_le _)) htk)) (HA2.out.below (s_below (by with_reducible assumption))) HL2.out htk.lens).mono ?_; rintro e wn ⟨rfl, hb⟩; have hS2 := below_on (s_below (by with_reducible assumption)) hb; clear hS; have hS := hS2; clear hS2 hb hown htk)
          | (go_at_call 16; have := mk2; refine (over_x _ S _).mono ?_; rintro e wn ⟨v, rs, rfl, hown, htk, hb⟩; rw [HT.out] at htk; dsimp only at htk; have hS2 := below_on (s_below (by with_reducible assumption)) hb; clear hS; have hS := hS2; clear hS2 hb; have mk3 := trivial)
          | (go_at_call 10; have := mk1; refine (are_l ((tok_arr (hown.le (Nat.zero_le _)) htk)) (HA.out.below (s_below (by with_reducible assumption))) HL1.out HLS.out).mono ?_; rintro e wn ⟨rfl, hb⟩; have hS2 := below_on (s_below (by with_reducible assumption)) hb; clear hS; have hS := hS2; clear hS2 hb hown htk; clear mk1; have mk2 := trivial)
          | (go_at_call 16; refine (over_x _ S _).mono ?_; rintro e wn ⟨v, rs, rfl, hown, htk, hb⟩; rw [HT.out] at htk; dsimp only at htk; rw [HO1.out] at htk; have hS2 := below_on (s_below (by with_reducible assumption)) hb; clear hS; have hS := hS2; clear hS2 hb; have mk1 := trivial))
      have hbv := below_on hbw hS
      replace pW := pW.below hS
      replace pR := pR.below hS
      replace harr := HA.out.below hS
      have HA' := Lib.hid harr
      clear hS hcw mk3 HA HA2 HL1 HL2 HO1 HS0 harr
      go_upto_region 13 with (go_at_call 13; refine (words_x _ S).mono ?_; rintro e w6 ⟨rfl, rfl⟩; obtain ⟨W6, hW6, pS, hb6⟩ : ∃ W6 : World, W6 = wn.alloc (.cells #[.string S] 9) ∧ Blk W6 wn.heap.size 9 #[.string S] ∧ Below wn.heap.size wn W6 := ⟨_, rfl, Blk.new _ _ _, below_alloc1 _ _⟩; obtain ⟨Bs, hBs⟩ : ∃ b, b = wn.heap.size := ⟨_, rfl⟩; rw [← hW6, ← hBs]; rw [← hBs] at pS; clear hW6 hBs)
      obtain ⟨W7, hW7, pF, hb7⟩ : ∃ W7 : World, W7 = W6.alloc (.cells #[.func (.func 25) #[] #[.pointer (some ⟨Bs, 0, none⟩)]] 36) ∧ Blk W7 W6.heap.size 36 #[.func (.func 25) #[] #[.pointer (some ⟨Bs, 0, none⟩)]] ∧ Below W6.heap.size W6 W7 := ⟨_, rfl, Blk.new _ _ _, below_alloc1 _ _⟩
      obtain ⟨Bf, hBf⟩ : ∃ b, b = W6.heap.size := ⟨_, rfl⟩
      rw [← hW7, ← hBf]
      rw [← hBf] at pF
      clear hW7 hBf
      have hbv7 := below_on (below_on hbv hb6) hb7
      replace pW := (pW.below hb6).below hb7
      replace pR := (pR.below hb6).below hb7
      replace pS := pS.below hb7
      have HA := Lib.hid ((HA'.out.below hb6).below hb7)
      clear HA' hb6 hb7 hbv
      go_upto_region 14 with (fail)
      obtain ⟨W8, hW8, pK, hb8⟩ : ∃ W8 : World, W8 = W7.alloc (.cells #[.int .i64 0] 3) ∧ Blk W8 W7.heap.size 3 #[.int .i64 0] ∧ Below W7.heap.size W7 W8 := ⟨_, rfl, Blk.new _ _ _, below_alloc1 _ _⟩
      obtain ⟨Bk, hBk⟩ : ∃ b, b = W7.heap.size := ⟨_, rfl⟩
      have h8 : W8.heap.size = W7.heap.size + 1 := by rw [hW8]; simp
      rw [← hW8, ← hBk]
      rw [← hBk] at pK
      have pF7 := pF
      replace pF := pF.below hb8
      have pS7 := pS
      have pW7 := pW
      replace pS := pS.below hb8
      have HBK := Lib.hid hBk
      have H8 := Lib.hid h8
      clear hW8 hBk h8
      have hcf := pF.cell 0
      simp only [List.getElem?_toArray, List.getElem?_cons_zero] at hcf
      go_wp2_with fail
      refine (wpIn_wide (n := 1)).1 ?_
      refine range_w (Bs := Bs) (S := S) rfl pS rfl
        (fun pre W => Below W7.heap.size W7 W ∧ Blk W Bk 3 #[.int .i64 (pre.length : Nat)] ∧ pre.length ≤ 3) (fun c pre W => c = .exit 0 ∧ Below W7.heap.size W7 W)
        (fun s u u' h hab => ⟨AbB.below h.1 hab hb8.size h.1.size, hab.blk h.2.1 (by decide), h.2.2⟩) (fun c s u u' h hab => ⟨h.1, AbB.below h.2 hab hb8.size h.2.size⟩)
        ⟨hb8, pK, Nat.zero_le _⟩ ?round ?done ?stop
      case round =>
        rintro mm l r0 pre x W K hsz hl ⟨hb, pk, hk3⟩ ⟨bs, hmag⟩ hnx hK
        have hba := below_alloc1 W (.cells #[.int .i64 (x.1 : Nat), .string x.2.1, .bool false, .slice x.2.2.1.1 x.2.2.1.2.1 x.2.2.1.2.2, .int .i64 (x.2.2.2 : Nat)] 44)
        obtain ⟨hkA, hkB⟩ := km_fr (B := W8.heap.size) ((Fr.refl W (fun _ => False)).below hba) (fun b h => h.elim)
        have ht0 := Blk.new W 44 #[.int .i64 (x.1 : Nat), .string x.2.1, .bool false, .slice x.2.2.1.1 x.2.2.1.2.1 x.2.2.1.2.2, .int .i64 (x.2.2.2 : Nat)]
        have hl2 := (hba.block l (Array.getElem?_eq_some_iff.1 hl).1).trans hl
        simp only [tq]
        gi_wp2
        refine hK _ _ hkA hkB (fun r' => ?_)
        obtain ⟨W9, hW9⟩ : ∃ W9, (W.alloc (.cells #[.int .i64 (x.1 : Nat), .string x.2.1, .bool false, .slice x.2.2.1.1 x.2.2.1.2.1 x.2.2.1.2.2, .int .i64 (x.2.2.2 : Nat)] 44)).putObj l (.loop r') = W9 := ⟨_, rfl⟩
        have hf9 := put_fr (W.alloc (.cells #[.int .i64 (x.1 : Nat), .string x.2.1, .bool false, .slice x.2.2.1.1 x.2.2.1.2.1 x.2.2.1.2.2, .int .i64 (x.2.2.2 : Nat)] 44)) l (.loop r')
        have hlW : l < (W.alloc (.cells #[.int .i64 (x.1 : Nat), .string x.2.1, .bool false, .slice x.2.2.1.1 x.2.2.1.2.1 x.2.2.1.2.2, .int .i64 (x.2.2.2 : Nat)] 44)).heap.size := (Array.getElem?_eq_some_iff.1 hl2).1
        have hl9 : W9.heap[l]? = some (.loop r') := by rw [← hW9]; exact World.putObj_heap_same hlW
        have hab9 := abB_put (W.alloc (.cells #[.int .i64 (x.1 : Nat), .string x.2.1, .bool false, .slice x.2.2.1.1 x.2.2.1.2.1 x.2.2.1.2.2, .int .i64 (x.2.2.2 : Nat)] 44)) (.loop r') (Nat.le_trans hb8.size hsz) hl2 rfl
        rw [hW9] at hf9 hab9 ⊢
        have pt := fr_cell hf9 hl2 rfl ht0
        replace pk := fr_cell hf9 hl2 rfl (pk.below hba)
        have hbW := below_on hb hba
        have hb9 := AbB.below hbW hab9 (Nat.le_refl _) hbW.size
        have hmag9 := (hmag.below hba).abB hab9
        obtain ⟨Bt, hBt⟩ : ∃ b, b = W.heap.size := ⟨_, rfl⟩
        rw [← hBt] at pt ⊢
        clear hW9 hf9 hlW hab9 hl hl2 hmag ht0 hba hkA hkB hbW hb hK hBt K
        have harr := HA.out.below hb9
        replace pW := pW.below hb9
        have hlt := hnx.1
        have hTe : (X.tokens S.data.toList).1 = t1 := by rw [HT.out]
        have his := fun (w' : World) (hb' : Below W9.heap.size W9 w') (B : Option Addr) (md dd : Nat) (hsl : Sl w' B md dd ((X.tks S.data.toList (X.tokens S.data.toList).1).getD pre.length wd0).2.2.1) => is_w hnx (hmag9.below hb') hsl
        rw [hTe, HM.out] at hlt
        rw [hTe] at his
        obtain ⟨k, hk⟩ : ∃ k, pre.length = k := ⟨_, rfl⟩
        rw [hk] at pk hk3 hlt his
        obtain ⟨A', c', e, hcells⟩ := harr
        rw [X.tks_len, HM.out] at e hcells
        injection e with e1 e2 e3
        subst e1
        subst e3
        clear e2
        obtain ⟨g, rfl, hce⟩ := hcells (by omega)
        obtain ⟨B, md, dd, a0, a1, a2, a3, a4, asl⟩ := hce k hlt
        obtain ⟨⟨q1, q2, q3, q4⟩, hq⟩ : ∃ q, (X.tks S.data.toList t1).getD k wd0 = q := ⟨_, rfl⟩
        rw [hq] at a0 a1 a4 asl his
        dsimp only at a0 a1 a4 asl his
        have HIS : Hid (∀ w', Below W9.heap.size W9 w' → Calls Tryd.prog 17 #[.agg #[.int .i64 (x.1 : Nat), .string x.2.1, .bool false, .slice x.2.2.1.1 x.2.2.1.2.1 x.2.2.1.2.2, .int .i64 (x.2.2.2 : Nat)], .agg #[.int .i64 (q1 : Nat), .string q2, .bool false, .slice B md dd, .int .i64 (q4 : Nat)]] w' fun e w'' => e = .returned (.bool true) ∧ Below w'.heap.size w' w'') := Lib.hid (fun w' hb' => his w' hb' B md dd (asl.below hb'))
        have HK := Lib.hid hk
        have HNX := Lib.hid hnx
        clear his hcells hce hq asl hTe hmag9 hnx hk
        obtain ⟨_, c0, c1, c2, c3, c4⟩ := pt.facts
        have ck := pk.cell 0
        have cw := pW.cell 0
        simp only [List.getElem?_toArray, List.getElem?_cons_zero] at ck cw
        have hki : (k : Int) < m := by omega
        have hk0 : (0 : Int) ≤ k := by omega
        have q1' : decide (m ≤ k) = false := decide_eq_false (by omega)
        have HS0 : Hid (∀ w', Below W9.heap.size W9 w' → (w'.cell? ⟨Bk, 0, none⟩ = some (.int .i64 (k : Nat)) ∧ w'.cell? ⟨Bw, 0, none⟩ = some (.slice (some ⟨g, 0, none⟩) m c) ∧ (w'.cell? ⟨Bt, 0, none⟩ = some (.int .i64 (x.1 : Nat)) ∧ w'.cell? ⟨Bt, 1, none⟩ = some (.string x.2.1) ∧ w'.cell? ⟨Bt, 2, none⟩ = some (.bool false) ∧ w'.cell? ⟨Bt, 3, none⟩ = some (.slice x.2.2.1.1 x.2.2.1.2.1 x.2.2.1.2.2) ∧ w'.cell? ⟨Bt, 4, none⟩ = some (.int .i64 (x.2.2.2 : Nat))) ∧ w'.cell? ⟨g, k * 5, none⟩ = some (.int .i64 (q1 : Nat)) ∧ w'.cell? ⟨g, k * 5 + 1, none⟩ = some (.string q2) ∧ w'.cell? ⟨g, k * 5 + 2, none⟩ = some (.bool false) ∧ w'.cell? ⟨g, k * 5 + 3, none⟩ = some (.slice B md dd) ∧ w'.cell? ⟨g, k * 5 + 4, none⟩ = some (.int .i64 (q4 : Nat))) ∧ Below W9.heap.size W9 w') := Lib.hid (fun w' h => ⟨⟨keep_cell ck h, keep_cell cw h, ⟨keep_cell c0 h, keep_cell c1 h, keep_cell c2 h, keep_cell c3 h, keep_cell c4 h⟩, keep_cell a0 h, keep_cell a1 h, keep_cell a2 h, keep_cell a3 h, keep_cell a4 h⟩, h⟩)
        clear ck cw c0 c1 c2 c3 c4 a0 a1 a2 a3 a4
        gi_wp2
        refine wpIn_region_held (S := fun w' => (w'.cell? ⟨Bk, 0, none⟩ = some (.int .i64 (k : Nat)) ∧ w'.cell? ⟨Bw, 0, none⟩ = some (.slice (some ⟨g, 0, none⟩) m c) ∧ (w'.cell? ⟨Bt, 0, none⟩ = some (.int .i64 (x.1 : Nat)) ∧ w'.cell? ⟨Bt, 1, none⟩ = some (.string x.2.1) ∧ w'.cell? ⟨Bt, 2, none⟩ = some (.bool false) ∧ w'.cell? ⟨Bt, 3, none⟩ = some (.slice x.2.2.1.1 x.2.2.1.2.1 x.2.2.1.2.2) ∧ w'.cell? ⟨Bt, 4, none⟩ = some (.int .i64 (x.2.2.2 : Nat))) ∧ w'.cell? ⟨g, k * 5, none⟩ = some (.int .i64 (q1 : Nat)) ∧ w'.cell? ⟨g, k * 5 + 1, none⟩ = some (.string q2) ∧ w'.cell? ⟨g, k * 5 + 2, none⟩ = some (.bool false) ∧ w'.cell? ⟨g, k * 5 + 3, none⟩ = some (.slice B md dd) ∧ w'.cell? ⟨g, k * 5 + 4, none⟩ = some (.int .i64 (q4 : Nat))) ∧ Below W9.heap.size W9 w') (by kernel_rfl) (by kernel_rfl) (by rintro ⟨_, _, h⟩; exact h.elim) (HS0.out _ (Below.refl _ _).drew) (fun hHeld => ?_)
        refine take_at 0 (by kernel_rfl) (by kernel_rfl) (by kernel_rfl) (fun _ _ _ _ _ h => h) ⟨_, rfl⟩ (by assumption) (fun o ho => ?_)
        simp only [List.getElem?_toArray, List.getElem?_cons_zero, Option.some.injEq] at ho
        subst ho
        refine ⟨?_, ⟨by rfl, ?_⟩, ?_⟩
        rotate_left
        · intro w hSw
          (try dsimp only at hSw)
          (go_simp; try with_reducible rfl)
        (try simp only [Act.put, List.setIfInBounds_toArray, List.set_cons_zero, List.set_cons_succ])
        refine take_at 1 (by kernel_rfl) (by kernel_rfl) (by kernel_rfl) (fun _ _ _ _ _ h => h) ⟨_, rfl⟩ (by assumption) (fun o ho => ?_)
        simp only [List.getElem?_toArray, List.getElem?_cons_succ, List.getElem?_cons_zero, Option.some.injEq] at ho
        subst ho
        refine ⟨?_, ⟨by rfl, ?_⟩, ?_⟩
        rotate_left
        · intro w hSw
          (try dsimp only at hSw)
          (go_simp; try with_reducible rfl)
        (try simp only [Act.put, List.setIfInBounds_toArray, List.set_cons_zero, List.set_cons_succ])
        refine take_at 2 (by kernel_rfl) (by kernel_rfl) (by kernel_rfl) (fun _ _ _ _ _ h => h) ⟨_, rfl⟩ (by assumption) (fun o ho => ?_)
        simp only [List.getElem?_toArray, List.getElem?_cons_succ, List.getElem?_cons_zero, Option.some.injEq] at ho
        subst ho
        refine ⟨?_, ⟨by rfl, ?_⟩, ?_⟩
        rotate_left
        · intro w hSw
          (try dsimp only at hSw)
          (go_simp; try with_reducible rfl)
        (try simp only [Act.put, List.setIfInBounds_toArray, List.set_cons_zero, List.set_cons_succ])
        refine take_at 3 (by kernel_rfl) (by kernel_rfl) (by kernel_rfl) (fun _ _ _ _ _ h => h) ⟨_, rfl⟩ (by assumption) (fun o ho => ?_)
        simp only [List.getElem?_toArray, List.getElem?_cons_succ, List.getElem?_cons_zero, Option.some.injEq] at ho
        subst ho
        refine ⟨?_, ⟨by rfl, ?_⟩, ?_⟩
        rotate_left
        · intro w hSw
          (try dsimp only at hSw)
          (go_simp; try with_reducible rfl)
        (try simp only [Act.put, List.setIfInBounds_toArray, List.set_cons_zero, List.set_cons_succ])
        (try simp only [q1'])
        refine take_at 4 (by kernel_rfl) (by kernel_rfl) (by kernel_rfl) (fun _ _ _ _ _ h => h) ⟨_, rfl⟩ (by assumption) (fun o ho => ?_)
        simp only [List.getElem?_toArray, List.getElem?_cons_succ, List.getElem?_cons_zero, Option.some.injEq] at ho
        subst ho
        refine ⟨?_, ⟨by rfl, ?_⟩, ?_⟩
        rotate_left
        · intro w hSw
          (try dsimp only at hSw)
          (go_simp; try with_reducible rfl)
        (try simp only [Act.put, List.setIfInBounds_toArray, List.set_cons_zero, List.set_cons_succ])
        refine take_at 5 (by kernel_rfl) (by kernel_rfl) (by kernel_rfl) (fun _ _ _ _ _ h => h) ⟨_, rfl⟩ (by assumption) (fun o ho => ?_)
        simp only [List.getElem?_toArray, List.getElem?_cons_succ, List.getElem?_cons_zero, Option.some.injEq] at ho
        subst ho
        refine ⟨?_, ⟨by rfl, ?_⟩, ?_⟩
        rotate_left
        · intro w hSw
          (try dsimp only at hSw)
          (go_simp; try with_reducible rfl)
        (try simp only [Act.put, List.setIfInBounds_toArray, List.set_cons_zero, List.set_cons_succ])
        refine take_at 6 (by kernel_rfl) (by kernel_rfl) (by kernel_rfl) (fun _ _ _ _ _ h => h) ⟨_, rfl⟩ (by assumption) (fun o ho => ?_)
        simp only [List.getElem?_toArray, List.getElem?_cons_succ, List.getElem?_cons_zero, Option.some.injEq] at ho
        subst ho
        refine ⟨?_, ⟨by rfl, ?_⟩, ?_⟩
        rotate_left
        · intro w hSw
          (try dsimp only at hSw)
          (go_simp; try with_reducible rfl)
        (try simp only [Act.put, List.setIfInBounds_toArray, List.set_cons_zero, List.set_cons_succ])
        refine take_at 7 (by kernel_rfl) (by kernel_rfl) (by kernel_rfl) (fun _ _ _ _ _ h => h) ⟨_, rfl⟩ (by assumption) (fun o ho => ?_)
        simp only [List.getElem?_toArray, List.getElem?_cons_succ, List.getElem?_cons_zero, Option.some.injEq] at ho
        subst ho
        refine ⟨?_, ⟨by rfl, ?_⟩, ?_⟩
        rotate_left
        · intro w hSw
          (try dsimp only at hSw)
          (go_simp; try with_reducible rfl)
        (try simp only [Act.put, List.setIfInBounds_toArray, List.set_cons_zero, List.set_cons_succ])
        refine wpAnyH_ready (rs := [8]) (by kernel_rfl) (by simp) ?_
        refine ready_at 8 ⟨_, rfl⟩ (fun o ho K hK => ?_) ?_
        · simp only [List.getElem?_toArray, List.getElem?_cons_succ, List.getElem?_cons_zero, Option.some.injEq] at ho
          subst ho
          go_simp
          refine hK.out _ _ ?_ (fun hHeld2 => ?_)
          · (try dsimp only)
            (first | assumption | exact HS0.out _ (by assumption))
          replace hHeld := hHeld2
          clear hK K hHeld2
          (try dsimp only at hHeld)
          (try simp only [List.setIfInBounds_toArray, List.set_cons_zero, List.set_cons_succ])
          refine take_at 9 (by kernel_rfl) (by kernel_rfl) (by kernel_rfl) (fun _ _ _ _ _ h => h) ⟨_, rfl⟩ (by assumption) (fun o ho => ?_)
          simp only [List.getElem?_toArray, List.getElem?_cons_succ, List.getElem?_cons_zero, Option.some.injEq] at ho
          subst ho
          refine ⟨?_, ⟨by rfl, ?_⟩, ?_⟩
          rotate_left
          · intro w hSw
            (try dsimp only at hSw)
            (go_simp; try with_reducible rfl)
          (try simp only [Act.put, List.setIfInBounds_toArray, List.set_cons_zero, List.set_cons_succ])
          refine wpAnyH_ready (rs := [10]) (by kernel_rfl) (by simp) ?_
          refine ready_at 10 ⟨_, rfl⟩ (fun o ho K hK => ?_) ?_
          · simp only [List.getElem?_toArray, List.getElem?_cons_succ, List.getElem?_cons_zero, Option.some.injEq] at ho
            subst ho
            go_simp
            (go_at_call 17; refine (HIS.out _ (s_below (by with_reducible assumption))).mono ?_; rintro e wn ⟨rfl, hb⟩; have hS := below_on (s_below (by with_reducible assumption)) hb; clear hb)
            refine hK.out _ _ ?_ (fun hHeld2 => ?_)
            · (try dsimp only)
              (first | assumption | exact HS0.out _ (by assumption))
            replace hHeld := hHeld2
            clear hK K hHeld2
            (try dsimp only at hHeld)
            (try simp only [List.setIfInBounds_toArray, List.set_cons_zero, List.set_cons_succ])
            refine take_at 11 (by kernel_rfl) (by kernel_rfl) (by kernel_rfl) (fun _ _ _ _ _ h => h) ⟨_, rfl⟩ (by assumption) (fun o ho => ?_)
            simp only [List.getElem?_toArray, List.getElem?_cons_succ, List.getElem?_cons_zero, Option.some.injEq] at ho
            subst ho
            refine ⟨?_, ⟨by rfl, ?_⟩, ?_⟩
            rotate_left
            · intro w hSw
              (try dsimp only at hSw)
              (go_simp; try with_reducible rfl)
            (try simp only [Act.put, List.setIfInBounds_toArray, List.set_cons_zero, List.set_cons_succ])
            refine take_at 12 (by kernel_rfl) (by kernel_rfl) (by kernel_rfl) (fun _ _ _ _ _ h => h) ⟨_, rfl⟩ (by assumption) (fun o ho => ?_)
            simp only [List.getElem?_toArray, List.getElem?_cons_succ, List.getElem?_cons_zero, Option.some.injEq] at ho
            subst ho
            refine ⟨?_, ⟨by rfl, ?_⟩, ?_⟩
            rotate_left
            · intro w hSw
              (try dsimp only at hSw)
              (go_simp; try with_reducible rfl)
            (try simp only [Act.put, List.setIfInBounds_toArray, List.set_cons_zero, List.set_cons_succ])
            refine wpAnyH_done (by kernel_rfl) ?_ _
            obtain ⟨⟨ck, cw, _⟩, hS⟩ := hHeld
            have pk2 := pk.below hS
            have hfk := pk2.free 0
            have hBkl : W7.heap.size ≤ Bk := Nat.le_of_eq HBK.out.symm
            have hfin := fun (W3 : World) (h : Fr W9 W3 (fun b => b = Bk)) => km_fr (B := W8.heap.size) h (fun b hb hlt => ⟨_, _, (show Blk W9 b _ _ from hb ▸ pk), by decide⟩)
            have hfr := fun (v : Value) => (((Fr.refl W9 (fun b => b = Bk)).below hS).set (b := Bk) (.inl rfl) 0 v)
            have hbk : ∀ v, Below W7.heap.size W7 (wn.setCell ⟨Bk, 0, none⟩ v) := fun v => (below_on hb9 hS).setCell hBkl _
            have hpx : (pre ++ [x]).length = k + 1 := by rw [List.length_append, HK.out]; rfl
            have HPX := Lib.hid hpx
            clear hpx
            by_cases h3 : k = 3
            · have e1 : decide ((k : Int) + 1 > 3) = true := decide_eq_true (by omega)
              have e2 : decide (3 < (k : Int) + 1) = true := decide_eq_true (by omega)
              have e3 : decide (3 < k + 1) = true := decide_eq_true (by omega)
              gi_wp2
              obtain ⟨k1, k2⟩ := hfin _ (hfr (.int .i64 4))
              exact ⟨k1, k2, rfl, hbk _⟩
            · have e1 : decide ((k : Int) + 1 > 3) = false := decide_eq_false (by omega)
              have e2 : decide (3 < (k : Int) + 1) = false := decide_eq_false (by omega)
              have e3 : decide (3 < k + 1) = false := decide_eq_false (by omega)
              have hne : Bf ≠ Bk := by have := pF7.lt; omega
              have pFk := ((pF7.below hb9).below hS).far hne 0 (.int .i64 ((k : Int) + 1))
              have pFj := pFk.below (below_alloc1 _ (.cells #[.int .i64 0] 3))
              have cFj := pFj.cell 0
              have cFk := pFk.cell 0
              simp only [List.getElem?_toArray, List.getElem?_cons_zero] at cFj cFk
              gi_wp2
              clear cFj cFk ck cw e1 e2 e3 hfk
              obtain ⟨Wj, hWj⟩ : ∃ W, wn.setCell ⟨Bk, 0, none⟩ (.int .i64 ((k : Int) + 1)) = W := ⟨_, rfl⟩
              have hszj : Wj.heap.size = wn.heap.size := by rw [← hWj]; simp
              have hbj7 := hbk (.int .i64 ((k : Int) + 1))
              have hfrj := hfr (.int .i64 ((k : Int) + 1))
              have pkj := pk2.put 0 (.int .i64 ((k : Int) + 1))
              rw [hWj] at pFk hbj7 hfrj pkj ⊢
              obtain ⟨Wi, hWi⟩ : ∃ W, Wj.alloc (.cells #[.int .i64 0] 3) = W := ⟨_, rfl⟩
              have pj := Blk.new Wj 3 #[.int .i64 0]
              have hbi := below_alloc1 Wj (.cells #[.int .i64 0] 3)
              rw [hWi] at pj hbi ⊢
              rw [hszj] at pj
              obtain ⟨Bj, hBj⟩ : ∃ b, wn.heap.size = b := ⟨_, rfl⟩
              rw [hBj] at pj ⊢
              have hszi : Wi.heap.size = Wj.heap.size + 1 := by rw [← hWi]; simp
              have hlB : l ≠ Bk := by have := H8.out; have := HBK.out; omega
              have hlI : Wi.heap[l]? = some (.loop r') := (hbi.block l (Nat.lt_of_lt_of_le (Array.getElem?_eq_some_iff.1 hl9).1 hfrj.size)).trans ((hfrj.block l (Array.getElem?_eq_some_iff.1 hl9).1 hlB).trans hl9)
              have pSI := ((pS7.below hbj7)).below hbi
              have hwni : Wj.heap.size ≤ Bj := by omega
              clear hWj hWi hszj hBj
              refine range_wN (Bs := Bs) (S := S) hlI rfl pSI rfl
                (fun pre2 V => Below Wj.heap.size Wj V ∧ Blk V Bj 3 #[.int .i64 (pre2.length : Nat)]) (fun _ _ _ => False)
                (fun s u u' h hab => ⟨AbB.below h.1 hab hbi.size h.1.size, hab.blk h.2 (by decide)⟩) (fun _ _ _ _ h _ => h)
                ⟨hbi, pj⟩ ?round2 ?done2 ?stop2
              case round2 =>
                rintro mm2 l2 r2 pre2 y V K2 hsz2 hl2 ⟨hbj, pj⟩ ⟨bs2, hmag2⟩ hny hK2
                have hba2 := below_alloc1 V (.cells #[.int .i64 (y.1 : Nat), .string y.2.1, .bool false, .slice y.2.2.1.1 y.2.2.1.2.1 y.2.2.1.2.2, .int .i64 (y.2.2.2 : Nat)] 44)
                obtain ⟨hkA, hkB⟩ := km_fr (B := Wi.heap.size) ((Fr.refl V (fun _ => False)).below hba2) (fun b h => h.elim)
                have ht0 := Blk.new V 44 #[.int .i64 (y.1 : Nat), .string y.2.1, .bool false, .slice y.2.2.1.1 y.2.2.1.2.1 y.2.2.1.2.2, .int .i64 (y.2.2.2 : Nat)]
                have hl3 := (hba2.block l2 (Array.getElem?_eq_some_iff.1 hl2).1).trans hl2
                simp only [tq]
                gi_wp2
                refine hK2 _ _ hkA hkB (fun r3 => ?_)
                obtain ⟨V9, hV9⟩ : ∃ V9, (V.alloc (.cells #[.int .i64 (y.1 : Nat), .string y.2.1, .bool false, .slice y.2.2.1.1 y.2.2.1.2.1 y.2.2.1.2.2, .int .i64 (y.2.2.2 : Nat)] 44)).putObj l2 (.loop r3) = V9 := ⟨_, rfl⟩
                have hf9 := put_fr (V.alloc (.cells #[.int .i64 (y.1 : Nat), .string y.2.1, .bool false, .slice y.2.2.1.1 y.2.2.1.2.1 y.2.2.1.2.2, .int .i64 (y.2.2.2 : Nat)] 44)) l2 (.loop r3)
                have hab9 := abB_put (V.alloc (.cells #[.int .i64 (y.1 : Nat), .string y.2.1, .bool false, .slice y.2.2.1.1 y.2.2.1.2.1 y.2.2.1.2.2, .int .i64 (y.2.2.2 : Nat)] 44)) (.loop r3) (Nat.le_trans hbi.size hsz2) hl3 rfl
                rw [hV9] at hf9 hab9 ⊢
                have pt := fr_cell hf9 hl3 rfl ht0
                replace pj := fr_cell hf9 hl3 rfl (pj.below hba2)
                have hbW := below_on hbj hba2
                have hb92 := AbB.below hbW hab9 (Nat.le_refl _) hbW.size
                have hmag9 := (hmag2.below hba2).abB hab9
                obtain ⟨Bu, hBu⟩ : ∃ b, b = V.heap.size := ⟨_, rfl⟩
                rw [← hBu] at pt ⊢
                clear hV9 hf9 hab9 hl2 hl3 hmag2 ht0 hba2 hkA hkB hbW hbj hK2 hBu K2
                have harr := HA.out.below (below_on hbj7 hb92)
                have pW2 := pW7.below (below_on hbj7 hb92)
                have hlt2 := hny.1
                have hTe : (X.tokens S.data.toList).1 = t1 := by rw [HT.out]
                have his := fun (w' : World) (hb' : Below V9.heap.size V9 w') (B : Option Addr) (md dd : Nat) (hsl : Sl w' B md dd ((X.tks S.data.toList (X.tokens S.data.toList).1).getD pre2.length wd0).2.2.1) => is_w hny (hmag9.below hb') hsl
                rw [hTe, HM.out] at hlt2
                rw [hTe] at his
                obtain ⟨j, hj⟩ : ∃ j, pre2.length = j := ⟨_, rfl⟩
                rw [hj] at pj hlt2 his
                obtain ⟨A', c', e, hcells⟩ := harr
                rw [X.tks_len, HM.out] at e hcells
                injection e with e1 e2 e3
                subst e1
                subst e3
                clear e2
                obtain ⟨g', hg', hce⟩ := hcells (by omega)
                injection hg' with hg'
                injection hg' with hg'
                subst hg'
                obtain ⟨B, md, dd, a0, a1, a2, a3, a4, asl⟩ := hce j hlt2
                obtain ⟨⟨q1, q2, q3, q4⟩, hq⟩ : ∃ q, (X.tks S.data.toList t1).getD j wd0 = q := ⟨_, rfl⟩
                rw [hq] at a0 a1 a4 asl his
                dsimp only at a0 a1 a4 asl his
                have HIS2 : Hid (∀ w', Below V9.heap.size V9 w' → Calls Tryd.prog 17 #[.agg #[.int .i64 (y.1 : Nat), .string y.2.1, .bool false, .slice y.2.2.1.1 y.2.2.1.2.1 y.2.2.1.2.2, .int .i64 (y.2.2.2 : Nat)], .agg #[.int .i64 (q1 : Nat), .string q2, .bool false, .slice B md dd, .int .i64 (q4 : Nat)]] w' fun e w'' => e = .returned (.bool true) ∧ Below w'.heap.size w' w'') := Lib.hid (fun w' hb' => his w' hb' B md dd (asl.below hb'))
                have HJ := Lib.hid hj
                clear his hcells hce hq asl hTe hmag9 hny hj
                obtain ⟨_, c0, c1, c2, c3, c4⟩ := pt.facts
                have ck := pj.cell 0
                have cw := pW2.cell 0
                simp only [List.getElem?_toArray, List.getElem?_cons_zero] at ck cw
                have hji : (j : Int) < m := by omega
                have hj0 : (0 : Int) ≤ j := by omega
                have q1' : decide (m ≤ j) = false := decide_eq_false (by omega)
                have HS2 : Hid (∀ w', Below V9.heap.size V9 w' → (w'.cell? ⟨Bj, 0, none⟩ = some (.int .i64 (j : Nat)) ∧ w'.cell? ⟨Bw, 0, none⟩ = some (.slice (some ⟨g, 0, none⟩) m c) ∧ (w'.cell? ⟨Bu, 0, none⟩ = some (.int .i64 (y.1 : Nat)) ∧ w'.cell? ⟨Bu, 1, none⟩ = some (.string y.2.1) ∧ w'.cell? ⟨Bu, 2, none⟩ = some (.bool false) ∧ w'.cell? ⟨Bu, 3, none⟩ = some (.slice y.2.2.1.1 y.2.2.1.2.1 y.2.2.1.2.2) ∧ w'.cell? ⟨Bu, 4, none⟩ = some (.int .i64 (y.2.2.2 : Nat))) ∧ w'.cell? ⟨g, j * 5, none⟩ = some (.int .i64 (q1 : Nat)) ∧ w'.cell? ⟨g, j * 5 + 1, none⟩ = some (.string q2) ∧ w'.cell? ⟨g, j * 5 + 2, none⟩ = some (.bool false) ∧ w'.cell? ⟨g, j * 5 + 3, none⟩ = some (.slice B md dd) ∧ w'.cell? ⟨g, j * 5 + 4, none⟩ = some (.int .i64 (q4 : Nat))) ∧ Below V9.heap.size V9 w') := Lib.hid (fun w' h => ⟨⟨keep_cell ck h, keep_cell cw h, ⟨keep_cell c0 h, keep_cell c1 h, keep_cell c2 h, keep_cell c3 h, keep_cell c4 h⟩, keep_cell a0 h, keep_cell a1 h, keep_cell a2 h, keep_cell a3 h, keep_cell a4 h⟩, h⟩)
                clear ck cw c0 c1 c2 c3 c4 a0 a1 a2 a3 a4 hS
                gi_wp2
                refine wpIn_region_held (S := fun w' => (w'.cell? ⟨Bj, 0, none⟩ = some (.int .i64 (j : Nat)) ∧ w'.cell? ⟨Bw, 0, none⟩ = some (.slice (some ⟨g, 0, none⟩) m c) ∧ (w'.cell? ⟨Bu, 0, none⟩ = some (.int .i64 (y.1 : Nat)) ∧ w'.cell? ⟨Bu, 1, none⟩ = some (.string y.2.1) ∧ w'.cell? ⟨Bu, 2, none⟩ = some (.bool false) ∧ w'.cell? ⟨Bu, 3, none⟩ = some (.slice y.2.2.1.1 y.2.2.1.2.1 y.2.2.1.2.2) ∧ w'.cell? ⟨Bu, 4, none⟩ = some (.int .i64 (y.2.2.2 : Nat))) ∧ w'.cell? ⟨g, j * 5, none⟩ = some (.int .i64 (q1 : Nat)) ∧ w'.cell? ⟨g, j * 5 + 1, none⟩ = some (.string q2) ∧ w'.cell? ⟨g, j * 5 + 2, none⟩ = some (.bool false) ∧ w'.cell? ⟨g, j * 5 + 3, none⟩ = some (.slice B md dd) ∧ w'.cell? ⟨g, j * 5 + 4, none⟩ = some (.int .i64 (q4 : Nat))) ∧ Below V9.heap.size V9 w') (by kernel_rfl) (by kernel_rfl) (by rintro ⟨_, _, h⟩; exact h.elim) (HS2.out _ (Below.refl _ _).drew) (fun hHeld => ?_)
                refine take_at 0 (by kernel_rfl) (by kernel_rfl) (by kernel_rfl) (fun _ _ _ _ _ h => h) ⟨_, rfl⟩ (by assumption) (fun o ho => ?_)
                simp only [List.getElem?_toArray, List.getElem?_cons_zero, Option.some.injEq] at ho
                subst ho
                refine ⟨?_, ⟨by rfl, ?_⟩, ?_⟩
                rotate_left
                · intro w hSw
                  (try dsimp only at hSw)
                  (go_simp; try with_reducible rfl)
                (try simp only [Act.put, List.setIfInBounds_toArray, List.set_cons_zero, List.set_cons_succ])
                refine take_at 1 (by kernel_rfl) (by kernel_rfl) (by kernel_rfl) (fun _ _ _ _ _ h => h) ⟨_, rfl⟩ (by assumption) (fun o ho => ?_)
                simp only [List.getElem?_toArray, List.getElem?_cons_succ, List.getElem?_cons_zero, Option.some.injEq] at ho
                subst ho
                refine ⟨?_, ⟨by rfl, ?_⟩, ?_⟩
                rotate_left
                · intro w hSw
                  (try dsimp only at hSw)
                  (go_simp; try with_reducible rfl)
                (try simp only [Act.put, List.setIfInBounds_toArray, List.set_cons_zero, List.set_cons_succ])
                refine take_at 2 (by kernel_rfl) (by kernel_rfl) (by kernel_rfl) (fun _ _ _ _ _ h => h) ⟨_, rfl⟩ (by assumption) (fun o ho => ?_)
                simp only [List.getElem?_toArray, List.getElem?_cons_succ, List.getElem?_cons_zero, Option.some.injEq] at ho
                subst ho
                refine ⟨?_, ⟨by rfl, ?_⟩, ?_⟩
                rotate_left
                · intro w hSw
                  (try dsimp only at hSw)
                  (go_simp; try with_reducible rfl)
                (try simp only [Act.put, List.setIfInBounds_toArray, List.set_cons_zero, List.set_cons_succ])
                refine take_at 3 (by kernel_rfl) (by kernel_rfl) (by kernel_rfl) (fun _ _ _ _ _ h => h) ⟨_, rfl⟩ (by assumption) (fun o ho => ?_)
                simp only [List.getElem?_toArray, List.getElem?_cons_succ, List.getElem?_cons_zero, Option.some.injEq] at ho
                subst ho
                refine ⟨?_, ⟨by rfl, ?_⟩, ?_⟩
                rotate_left
                · intro w hSw
                  (try dsimp only at hSw)
                  (go_simp; try with_reducible rfl)
                (try simp only [Act.put, List.setIfInBounds_toArray, List.set_cons_zero, List.set_cons_succ])
                (try simp only [q1'])
                refine take_at 4 (by kernel_rfl) (by kernel_rfl) (by kernel_rfl) (fun _ _ _ _ _ h => h) ⟨_, rfl⟩ (by assumption) (fun o ho => ?_)
                simp only [List.getElem?_toArray, List.getElem?_cons_succ, List.getElem?_cons_zero, Option.some.injEq] at ho
                subst ho
                refine ⟨?_, ⟨by rfl, ?_⟩, ?_⟩
                rotate_left
                · intro w hSw
                  (try dsimp only at hSw)
                  (go_simp; try with_reducible rfl)
                (try simp only [Act.put, List.setIfInBounds_toArray, List.set_cons_zero, List.set_cons_succ])
                refine take_at 5 (by kernel_rfl) (by kernel_rfl) (by kernel_rfl) (fun _ _ _ _ _ h => h) ⟨_, rfl⟩ (by assumption) (fun o ho => ?_)
                simp only [List.getElem?_toArray, List.getElem?_cons_succ, List.getElem?_cons_zero, Option.some.injEq] at ho
                subst ho
                refine ⟨?_, ⟨by rfl, ?_⟩, ?_⟩
                rotate_left
                · intro w hSw
                  (try dsimp only at hSw)
                  (go_simp; try with_reducible rfl)
                (try simp only [Act.put, List.setIfInBounds_toArray, List.set_cons_zero, List.set_cons_succ])
                refine take_at 6 (by kernel_rfl) (by kernel_rfl) (by kernel_rfl) (fun _ _ _ _ _ h => h) ⟨_, rfl⟩ (by assumption) (fun o ho => ?_)
                simp only [List.getElem?_toArray, List.getElem?_cons_succ, List.getElem?_cons_zero, Option.some.injEq] at ho
                subst ho
                refine ⟨?_, ⟨by rfl, ?_⟩, ?_⟩
                rotate_left
                · intro w hSw
                  (try dsimp only at hSw)
                  (go_simp; try with_reducible rfl)
                (try simp only [Act.put, List.setIfInBounds_toArray, List.set_cons_zero, List.set_cons_succ])
                refine take_at 7 (by kernel_rfl) (by kernel_rfl) (by kernel_rfl) (fun _ _ _ _ _ h => h) ⟨_, rfl⟩ (by assumption) (fun o ho => ?_)
                simp only [List.getElem?_toArray, List.getElem?_cons_succ, List.getElem?_cons_zero, Option.some.injEq] at ho
                subst ho
                refine ⟨?_, ⟨by rfl, ?_⟩, ?_⟩
                rotate_left
                · intro w hSw
                  (try dsimp only at hSw)
                  (go_simp; try with_reducible rfl)
                (try simp only [Act.put, List.setIfInBounds_toArray, List.set_cons_zero, List.set_cons_succ])
                refine wpAnyH_ready (rs := [8]) (by kernel_rfl) (by simp) ?_
                refine ready_at 8 ⟨_, rfl⟩ (fun o ho K hK => ?_) ?_
                · simp only [List.getElem?_toArray, List.getElem?_cons_succ, List.getElem?_cons_zero, Option.some.injEq] at ho
                  subst ho
                  go_simp
                  refine hK.out _ _ ?_ (fun hHeld2 => ?_)
                  · (try dsimp only)
                    (first | assumption | exact HS2.out _ (by assumption))
                  replace hHeld := hHeld2
                  clear hK K hHeld2
                  (try dsimp only at hHeld)
                  (try simp only [List.setIfInBounds_toArray, List.set_cons_zero, List.set_cons_succ])
                  refine take_at 9 (by kernel_rfl) (by kernel_rfl) (by kernel_rfl) (fun _ _ _ _ _ h => h) ⟨_, rfl⟩ (by assumption) (fun o ho => ?_)
                  simp only [List.getElem?_toArray, List.getElem?_cons_succ, List.getElem?_cons_zero, Option.some.injEq] at ho
                  subst ho
                  refine ⟨?_, ⟨by rfl, ?_⟩, ?_⟩
                  rotate_left
                  · intro w hSw
                    (try dsimp only at hSw)
                    (go_simp; try with_reducible rfl)
                  (try simp only [Act.put, List.setIfInBounds_toArray, List.set_cons_zero, List.set_cons_succ])
                  refine wpAnyH_ready (rs := [10]) (by kernel_rfl) (by simp) ?_
                  refine ready_at 10 ⟨_, rfl⟩ (fun o ho K hK => ?_) ?_
                  · simp only [List.getElem?_toArray, List.getElem?_cons_succ, List.getElem?_cons_zero, Option.some.injEq] at ho
                    subst ho
                    go_simp
                    (go_at_call 17; refine (HIS2.out _ (s_below (by with_reducible assumption))).mono ?_; rintro e vn ⟨rfl, hb⟩; have hS := below_on (s_below (by with_reducible assumption)) hb; clear hb)
                    refine hK.out _ _ ?_ (fun hHeld2 => ?_)
                    · (try dsimp only)
                      (first | assumption | exact HS2.out _ (by assumption))
                    replace hHeld := hHeld2
                    clear hK K hHeld2
                    (try dsimp only at hHeld)
                    (try simp only [List.setIfInBounds_toArray, List.set_cons_zero, List.set_cons_succ])
                    refine take_at 11 (by kernel_rfl) (by kernel_rfl) (by kernel_rfl) (fun _ _ _ _ _ h => h) ⟨_, rfl⟩ (by assumption) (fun o ho => ?_)
                    simp only [List.getElem?_toArray, List.getElem?_cons_succ, List.getElem?_cons_zero, Option.some.injEq] at ho
                    subst ho
                    refine ⟨?_, ⟨by rfl, ?_⟩, ?_⟩
                    rotate_left
                    · intro w hSw
                      (try dsimp only at hSw)
                      (go_simp; try with_reducible rfl)
                    (try simp only [Act.put, List.setIfInBounds_toArray, List.set_cons_zero, List.set_cons_succ])
                    refine take_at 12 (by kernel_rfl) (by kernel_rfl) (by kernel_rfl) (fun _ _ _ _ _ h => h) ⟨_, rfl⟩ (by assumption) (fun o ho => ?_)
                    simp only [List.getElem?_toArray, List.getElem?_cons_succ, List.getElem?_cons_zero, Option.some.injEq] at ho
                    subst ho
                    refine ⟨?_, ⟨by rfl, ?_⟩, ?_⟩
                    rotate_left
                    · intro w hSw
                      (try dsimp only at hSw)
                      (go_simp; try with_reducible rfl)
                    (try simp only [Act.put, List.setIfInBounds_toArray, List.set_cons_zero, List.set_cons_succ])
                    refine wpAnyH_done (by kernel_rfl) ?_ _
                    obtain ⟨⟨ck, _⟩, hS⟩ := hHeld
                    have pj2 := pj.below hS
                    have hfj := pj2.free 0
                    have hfr2 := (((Fr.refl V9 (fun b => b = Bj)).below hS).set (b := Bj) (.inl rfl) 0 (.int .i64 ((j : Int) + 1)))
                    obtain ⟨k1, k2⟩ := km_fr (B := Wi.heap.size) hfr2 (fun b hb hlt => ⟨_, _, (show Blk V9 b _ _ from hb ▸ pj), by decide⟩)
                    have hpy : (pre2 ++ [y]).length = j + 1 := by rw [List.length_append, HJ.out]; rfl
                    have HPY := Lib.hid hpy
                    clear hpy
                    gi_wp2
                    have hjb : Blk (vn.setCell ⟨Bj, 0, none⟩ (.int .i64 ((j : Int) + 1))) Bj 3 #[.int .i64 ((pre2 ++ [y]).length : Nat)] := by
                      rw [HPY.out, show ((j + 1 : Nat) : Int) = (j : Int) + 1 by omega]
                      exact pj2.put 0 _
                    exact ⟨k1, k2, (below_on hb92 hS).setCell hwni _, hjb⟩
                  exact AllReadyH.nil
                exact AllReadyH.nil
              case done2 =>
                rintro xs V hMt ⟨hbj, pj⟩
                have hxm : xs.length = m := by rw [hMt.1, HT.out, HM.out]
                rw [hxm] at pj
                have pW2 := pW7.below (below_on hbj7 hbj)
                have cj := pj.cell 0
                have cw := pW2.cell 0
                simp only [List.getElem?_toArray, List.getElem?_cons_zero] at cj cw
                have hbd := below_on hbj7 hbj
                obtain ⟨k1, k2⟩ := hfin _ (hfrj.below hbj)
                have pke : Blk V Bk 3 #[.int .i64 ((pre ++ [x]).length : Nat)] := by
                  rw [HPX.out, show ((k + 1 : Nat) : Int) = (k : Int) + 1 by omega]
                  exact (Blk.below pkj hbj)
                have HE := Lib.hid (show KeepsFrom W8.heap.size W9 V ∧ Km W9 V ∧ Below W7.heap.size W7 V ∧ Blk V Bk 3 #[.int .i64 ((pre ++ [x]).length : Nat)] ∧ (pre ++ [x]).length ≤ 3 from ⟨k1, k2, hbd, pke, by rw [HPX.out]; omega⟩)
                clear hxm pke k1 k2 pj pW2 hbd hMt
                gi_wp2
                exact HE.out
              case stop2 =>
                rintro c'' pre2 V _ h
                exact h.elim
          exact AllReadyH.nil
        exact AllReadyH.nil
      case done =>
        rintro D xs W hD hMt ⟨hb, pk, hk3⟩ hdf
        have pRW := pR.below hb
        have hfr := pRW.free 0
        have hcr := pRW.cell 0
        simp only [List.getElem?_toArray, List.getElem?_cons_zero] at hcr
        have hDl : W7.heap.size ≤ D := Nat.le_trans hb8.size hD
        go_wp2_with fail
        have hset := pRW.put 0 (.bool true)
        have hDne : D ≠ Br := Nat.ne_of_gt (Nat.lt_of_lt_of_le pR.lt hDl)
        have hKD := (Below.heap_setCell W ⟨Br, 0, none⟩ (.bool true) D hDne).trans hdf
        have hbl : w.heap.size ≤ Br := Nat.le_of_eq HBR.out.symm
        have hab := abB_put (W.setCell ⟨Br, 0, none⟩ (.bool true)) (.deferred none) (Nat.le_trans hbl (Nat.le_trans (Nat.le_of_lt pR.lt) hDl)) hKD rfl
        have hbf : Below w.heap.size w (W.setCell ⟨Br, 0, none⟩ (.bool true)) := (below_on hbv7 hb).setCell hbl _
        have hcE := (hab.blk hset (by decide)).cell 0
        simp only [List.getElem?_toArray, List.getElem?_cons_zero, List.setIfInBounds_toArray, List.set_cons_zero] at hcE
        refine ⟨by simp, .inl ⟨_, _, rfl, run_takeDeferred hKD, ?_⟩⟩
        exact ⟨_, results_bool rfl _ _ Br true rfl hcE, rfl, AbB.below hbf hab (Nat.le_refl _) hbf.size⟩
      case stop =>
        rintro D c' pre W hD hMt ⟨rfl, hb⟩ hdf
        have pRW := pR.below hb
        have hfr := pRW.free 0
        have hcr := pRW.cell 0
        simp only [List.getElem?_toArray, List.getElem?_cons_zero] at hcr
        have hDl : W7.heap.size ≤ D := Nat.le_trans hb8.size hD
        refine wpIn_wide.2 ?_
        go_wp2_with fail
        have hset := pRW.put 0 (.bool true)
        have hDne : D ≠ Br := Nat.ne_of_gt (Nat.lt_of_lt_of_le pR.lt hDl)
        have hKD := (Below.heap_setCell W ⟨Br, 0, none⟩ (.bool true) D hDne).trans hdf
        have hbl : w.heap.size ≤ Br := Nat.le_of_eq HBR.out.symm
        have hab := abB_put (W.setCell ⟨Br, 0, none⟩ (.bool true)) (.deferred none) (Nat.le_trans hbl (Nat.le_trans (Nat.le_of_lt pR.lt) hDl)) hKD rfl
        have hbf : Below w.heap.size w (W.setCell ⟨Br, 0, none⟩ (.bool true)) := (below_on hbv7 hb).setCell hbl _
        have hcE := (hab.blk hset (by decide)).cell 0
        simp only [List.getElem?_toArray, List.getElem?_cons_zero, List.setIfInBounds_toArray, List.set_cons_zero] at hcE
        refine ⟨by simp, .inl ⟨_, _, rfl, run_takeDeferred hKD, ?_⟩⟩
        exact ⟨_, results_bool rfl _ _ Br true rfl hcE, rfl, AbB.below hbf hab (Nat.le_refl _) hbf.size⟩
theorem walkLexWords (w : World) (S : ByteArray) (hS : S.size ≤ 1048576) (z : Int) (hz : I64 z) :
    Calls Tryd.prog 4 #[.string S, .int .i64 z] w fun e w' => e = .returned (.bool true) ∧ Below w.heap.size w w' := callsIn_wide.1 (words_in 1 w S hS z hz)
end Go.Proofs.YtkioaogpmifgeaaDoor

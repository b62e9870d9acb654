/-
  lex.each with a round of a loop for yield: contract (in the wide fence).
-/
import Derived.Test.YtkioaogpmifgeaaDoorLexT
import Derived.RangeFuncNested
import Derived.RangeFuncBound
import Derived.RangeFuncCalls
import Derived.RangeFuncLeaves
import Derived.Shelf.Abstract
import Derived.Shelf.RegionOpen
import Derived.OwnWalkIn
import Derived.TacticsInMore
import Derived.LoopNIn
import Derived.LoopIn
namespace Go.Proofs.YtkioaogpmifgeaaDoor
open Go.RowKit Go.Shelf
attribute [local go_sem] Oper.semAt_some

/-- A word as it is handed on: kind, text, the number's list, place. -/
abbrev Tq := Nat × ByteArray × (Option Addr × Nat × Nat) × Nat
def tq (x : Tq) : Array Value := #[.agg #[.int .i64 (x.1 : Nat), .string x.2.1, .bool false, .slice x.2.2.1.1 x.2.2.1.2.1 x.2.2.1.2.2, .int .i64 (x.2.2.2 : Nat)]]
def isMis (B : Nat) (w : World) (b : Nat) : Prop := B ≤ b ∧ ∃ cs, Blk w b 25 cs
/-- What the iterator may do: new blocks come, and what lies in a Mishap's block may change. -/
def Ab (B : Nat) (w w' : World) : Prop := Fr w w' (isMis B w)
/-- What the body keeps: the Mishaps' blocks. -/
def Km (w w' : World) : Prop := (w'.os = w.os ∧ w'.tape = w.tape ∧ w'.output = w.output ∧ w.heap.size ≤ w'.heap.size) ∧ ∀ b cs, Blk w b 25 cs → Blk w' b 25 cs
/-- The words xs are the first of ps. -/
def Mt (l : List UInt8) (ps : List (Nat × Nat × Nat)) (xs : List Tq) : Prop := xs.length = ps.length ∧ ∀ i, i < ps.length → (xs.getD i (0, ⟨#[]⟩, (none, 0, 0), 0)).1 = (ps.getD i (0, 0, 0)).1 ∧ (xs.getD i (0, ⟨#[]⟩, (none, 0, 0), 0)).2.1.data.toList = (l.drop (ps.getD i (0, 0, 0)).2.1).take (ps.getD i (0, 0, 0)).2.2 ∧ (xs.getD i (0, ⟨#[]⟩, (none, 0, 0), 0)).2.2.2 = (ps.getD i (0, 0, 0)).2.1
/-- The next word. -/
def Nx (l : List UInt8) (pre : List Tq) (x : Tq) : Prop := pre.length < (X.tokens l).1.length ∧ Mt l ((X.tokens l).1.take (pre.length + 1)) (pre ++ [x])
theorem Mt.nil (l : List UInt8) : Mt l [] [] := ⟨rfl, fun i hi => absurd hi (by simp)⟩
theorem Mt.snoc {l : List UInt8} {ps : List (Nat × Nat × Nat)} {xs : List Tq} (h : Mt l ps xs) {x : Tq} {p : Nat × Nat × Nat} (h1 : x.1 = p.1) (h2 : x.2.1.data.toList = (l.drop p.2.1).take p.2.2) (h3 : x.2.2.2 = p.2.1) : Mt l (ps ++ [p]) (xs ++ [x]) := by
  refine ⟨by rw [List.length_append, List.length_append, h.1]; rfl, fun i hi => ?_⟩
  rw [List.length_append] at hi
  have hi' : i < ps.length + 1 := hi
  rcases Nat.lt_or_ge i ps.length with hlt | hge
  · have e1 : (xs ++ [x]).getD i (0, ⟨#[]⟩, (none, 0, 0), 0) = xs.getD i (0, ⟨#[]⟩, (none, 0, 0), 0) := by simp [List.getD, List.getElem?_append_left (by rw [h.1]; exact hlt : i < xs.length)]
    have e2 : (ps ++ [p]).getD i (0, 0, 0) = ps.getD i (0, 0, 0) := by simp [List.getD, List.getElem?_append_left hlt]
    rw [e1, e2]
    exact h.2 i hlt
  · obtain rfl : i = ps.length := by omega
    have e1 : (xs ++ [x]).getD ps.length (0, ⟨#[]⟩, (none, 0, 0), 0) = x := by rw [← h.1]; simp [List.getD]
    have e2 : (ps ++ [p]).getD ps.length (0, 0, 0) = p := by simp [List.getD]
    rw [e1, e2]
    exact ⟨h1, h2, h3⟩
set_option maxRecDepth 100000 in
set_option maxHeartbeats 8000000 in
theorem each_in (n L : Nat) (S : ByteArray) (J Jx : List Tq → World → Prop) (w : World) (hJ : ∀ s u u', J s u → Ab w.heap.size u u' → J s u') (hJx : ∀ s u u', Jx s u → Ab w.heap.size u u' → Jx s u')
    (hY : ∀ m pre x w1, J pre w1 → (∃ base, MagOf base w1 (.slice x.2.2.1.1 x.2.2.1.2.1 x.2.2.1.2.2) x.1 x.2.1.data.toList) → Nx S.data.toList pre x → YieldAt Fence.wide m Tryd.prog L (tq x) w1 fun e w' => (e = .returned (.bool true) ∧ J (pre ++ [x]) w' ∧ Km w1 w') ∨ (e = .returned (.bool false) ∧ Jx (pre ++ [x]) w' ∧ Km w1 w'))
    (h0 : J [] w) :
    CallsIn Fence.wide n Tryd.prog 23 #[.string S, .func (.yield L) #[] #[]] w fun e w' => (∃ v, e = .returned v) ∧ ((∃ xs, Mt S.data.toList (X.tokens S.data.toList).1 xs ∧ J xs w') ∨ (∃ pre, (∃ k, k ≤ (X.tokens S.data.toList).1.length ∧ Mt S.data.toList ((X.tokens S.data.toList).1.take k) pre) ∧ Jx pre w')) := by
  have p4 := Blk.new w 25 #[.int .i64 0, .int .i64 0]
  have hbW := below_alloc1 w (.cells #[.int .i64 0, .int .i64 0] 25)
  have hj0 : J [] (w.alloc (.cells #[.int .i64 0, .int .i64 0] 25)) := hJ _ _ _ h0 ((Fr.refl _ _).below hbW)
  obtain ⟨t1, t2, t3, ht⟩ : ∃ t1 t2 t3, X.tokens S.data.toList = (t1, t2, t3) := ⟨_, _, _, rfl⟩
  rw [ht]
  dsimp only
  have HT := Lib.hid ht
  clear ht
  refine callsIn_of_wp Tryd.func23 rfl trivial ?_ rfl
  simp only [Tryd.ntmps23, List.size_toArray, List.length_cons, List.length_nil, Nat.reduceAdd, Nat.reduceSub, Array.replicate_succ, Array.replicate_zero, List.push_toArray, List.append_toArray, List.nil_append, List.cons_append]
  by_cases hsz : 4096 < S.size
  · have d1 : decide ((S.size : Int) > 4096) = true := decide_eq_true (by omega)
    have d2 : decide ((4096 : Int) < S.size) = true := decide_eq_true (by omega)
    gi_wp2
    refine bodyPost_ret (results_cell_row rfl _ _ _ _ _ _ _ rfl (Blk.new _ _ _) Tryd.underlying25 rfl sizeMis) rfl ?_
    have e := HT.out
    unfold X.tokens at e
    rw [if_pos (by rw [size_list]; exact hsz)] at e
    injection e with e1 e2
    subst e1
    exact ⟨⟨_, rfl⟩, .inl ⟨[], Mt.nil _, hJ _ _ _ h0 ((Fr.refl _ _).below (below_alloc1 _ _))⟩⟩
  · have d1 : decide ((S.size : Int) > 4096) = false := decide_eq_false (by omega)
    have d2 : decide ((4096 : Int) < S.size) = false := decide_eq_false (by omega)
    have hlex : X.lex S.data.toList 0 = (t1, t2, t3) := by have e := HT.out; unfold X.tokens at e; rwa [if_neg (by rw [size_list]; exact hsz)] at e
    have HL := Lib.hid hlex
    clear hlex
    gi_wp2
    gi_loopw [5] (fun v5 wr => ∃ (at_ : Nat) (xs : List Tq) (ps : List (Nat × Nat × Nat)), at_ ≤ S.size ∧ v5 = .int .i64 (at_ : Nat) ∧ Hid (X.lex S.data.toList 0 = (ps ++ (X.lex S.data.toList at_).1, (X.lex S.data.toList at_).2)) ∧ Mt S.data.toList ps xs ∧ Hid (J xs wr) ∧ Blk wr w.heap.size 25 #[.int .i64 0, .int .i64 0]) (fun v5 _ => S.size - (intOf v5).toNat)
    case atStart => exact ⟨0, [], [], by omega, rfl, Lib.hid (by simp), Mt.nil _, Lib.hid hj0, p4⟩
    case round =>
      clear p4 hbW hj0
      obtain ⟨at_, xs, ps, hat, rfl, HLX, hmt, HJ, p4⟩ := hrel
      gi_wp2
      gi_loopw [5] (fun v5 wq => ∃ at2 : Nat, at2 ≤ S.size ∧ v5 = .int .i64 (at2 : Nat) ∧ Hid (X.lex S.data.toList at_ = X.lex S.data.toList at2) ∧ at_ ≤ at2 ∧ wr = wq) (fun v5 _ => S.size - (intOf v5).toNat)
      case atStart => exact ⟨at_, hat, rfl, Lib.hid rfl, Nat.le_refl _, rfl⟩
      case round =>
        obtain ⟨at2, hat2, rfl, HLX2, hle, rfl⟩ := hrel
        clear hat
        by_cases hk : at2 < S.size
        · have hb := getD_byte hk
          have HBY := Lib.hid hb
          have hk0 : (0 : Int) ≤ at2 := by omega
          have hki : (at2 : Int) < S.size := by omega
          obtain ⟨I, hI⟩ : ∃ I, Lib.indexByte (⟨#[32, 9, 10, 13]⟩ : ByteArray).data.toList (S[at2]'hk) = I := ⟨_, rfl⟩
          have hbi := blank_idx (S[at2]'hk)
          rw [hI] at hbi
          have HBI := Lib.hid hbi
          clear hb hbi
          cases hbl : X.blank (S[at2]'hk)
          · have dI : decide (I ≥ 0) = false := decide_eq_false (by have := HBI.out; rw [hbl] at this; simp at this; omega)
            have dJ : decide (0 ≤ I) = false := decide_eq_false (by have := HBI.out; rw [hbl] at this; simp at this; omega)
            have dE : ((at2 : Int) == S.size) = false := by simp; omega
            obtain ⟨r1, r2, r3, hR⟩ : ∃ r1 r2 r3, X.one (S.extract at2 S.size).data.toList = (r1, r2, r3) := ⟨_, _, _, rfl⟩
            have hR2 : X.one (S.data.toList.drop at2) = (r1, r2, r3) := by rw [← X.drop_list]; exact hR
            have hds := X.drop_size hat2
            have HRR := Lib.hid hR
            have HR2 := Lib.hid hR2
            have HDS := Lib.hid hds
            have hbl' : X.blank (S.data.toList.getD at2 0) = false := by rw [HBY.out]; exact hbl
            have HBL := Lib.hid hbl'
            clear hR hR2 hds hbl hbl'
            by_cases h0 : r1 = 0
            · subst h0
              have hpos := X.one_pos (l := S.data.toList.drop at2) (by rw [HR2.out])
              rw [HR2.out] at hpos
              obtain ⟨hp1, _, hp2⟩ := hpos
              dsimp only at hp1 hp2
              rw [List.length_drop, size_list] at hp2
              have hwd : ∀ (T : ByteArray) (q : Option Addr × Nat × Nat), T.size = r3 → T.data.toList = (S.data.toList.drop at2).take r3 → Nx S.data.toList xs (r2, T, q, at2) := fun T q hT1 hT2 => by
                have e := HL.out
                rw [HLX.out, HLX2.out, X.lex_tok (by rw [size_list]; exact hk) HBL.out (by rw [HR2.out]), HR2.out] at e
                injection e with e1 _
                unfold Nx
                rw [HT.out]
                dsimp only at e1 ⊢
                rw [← e1, hmt.1]
                refine ⟨by simp, ?_⟩
                rw [show ps ++ (r2, at2, r3) :: (X.lex S.data.toList (at2 + r3)).1 = (ps ++ [(r2, at2, r3)]) ++ (X.lex S.data.toList (at2 + r3)).1 by simp, List.take_append_of_le_length (by simp), List.take_of_length_le (by simp)]
                exact hmt.snoc rfl hT2 rfl
              have HWD := Lib.hid hwd
              clear hwd
              have hei : (at2 : Int) + r3 ≤ S.size := by omega
              have hSi : (S.size : Int) ≤ 4096 := by omega
              gi_wp2_with (first
                | (refine ⟨trivial, fun h => (by cases h), ?_⟩; gi_at_call 34; refine (callsIn_wide.2 (index_s _ _ _)).mono ?_; rintro e w2 ⟨rfl, rfl⟩; rw [hI])
                | (refine ⟨trivial, fun h => (by cases h), ?_⟩; gi_at_call 35; refine (callsIn_wide.2 (one_x _ (S.extract at2 S.size) (by rw [HDS.out]; omega) (by rw [HDS.out]; omega) HRR.out)).mono ?_; rintro e w2 ⟨T, A, n', c, rfl, hok, hb2⟩; obtain ⟨hT, hmag⟩ := hok rfl; have hTs : T.size = r3 := (by rw [hT, ext_size (by rw [HDS.out]; exact hp2)]); have hTl : T.data.toList = (S.data.toList.drop at2).take r3 := (by rw [hT, ext_list, X.drop_list]); have hnx1 := HWD.out T (A, n', c) hTs hTl; clear HWD; subst hTs; have HTL := Lib.hid hTl; have p42 := (p4.below hb2).below (below_alloc1 w2 (.cells #[.int .i64 (r2 : Nat), .string T, .bool false, .slice A n' c, .int .i64 (at2 : Nat)] 44)); have hmag1 := hmag.below (below_alloc1 w2 (.cells #[.int .i64 (r2 : Nat), .string T, .bool false, .slice A n' c, .int .i64 (at2 : Nat)] 44)); have HJ1 := hJ _ _ _ HJ.out (((Fr.refl wr (isMis w.heap.size wr)).below hb2).below (below_alloc1 w2 (.cells #[.int .i64 (r2 : Nat), .string T, .bool false, .slice A n' c, .int .i64 (at2 : Nat)] 44))); obtain ⟨fn, tmps, assign, body, hy, hR⟩ := hY (n - 1) xs (r2, T, (A, n', c), at2) _ HJ1 ⟨_, hmag1⟩ hnx1; simp only [tq] at hy; clear hnx1; clear hT hTl hok)
                | (refine ⟨fun h => (by cases h), ?_⟩; refine hR.mono ?_; clear hR; rintro e W3 (⟨rfl, hJ3, hk3⟩ | ⟨rfl, hx3, hk3⟩) <;> (have p43 := hk3.2 _ _ p42; obtain ⟨⟨f0, f1⟩, c0, c1⟩ := p43.facts2)))
              · have hlx : X.lex S.data.toList 0 = ((ps ++ [(r2, at2, T.size)]) ++ (X.lex S.data.toList (at2 + T.size)).1, (X.lex S.data.toList (at2 + T.size)).2) := by
                  rw [HLX.out, HLX2.out, X.lex_tok (by rw [size_list]; exact hk) HBL.out (by rw [HR2.out]), HR2.out]; simp
                have HLXN := Lib.hid hlx
                clear hlx
                go_roundw
                case rel => exact ⟨at2 + T.size, xs ++ [(r2, T, (A, n', c), at2)], ps ++ [(r2, at2, T.size)], by omega, by go_num, HLXN, hmt.snoc rfl HTL.out rfl, Lib.hid hJ3, p43⟩
                case measure => simp [intOf]; omega
              · have hlx : X.lex S.data.toList 0 = ((ps ++ [(r2, at2, T.size)]) ++ (X.lex S.data.toList (at2 + T.size)).1, (X.lex S.data.toList (at2 + T.size)).2) := by
                  rw [HLX.out, HLX2.out, X.lex_tok (by rw [size_list]; exact hk) HBL.out (by rw [HR2.out]), HR2.out]; simp
                have e := HL.out
                rw [hlx] at e
                injection e with e1 e2
                refine bodyPost_ret (results_cell_row rfl _ _ _ _ _ _ _ rfl (p43.set2 _ _) Tryd.underlying25 rfl sizeMis) rfl ?_
                refine ⟨⟨_, rfl⟩, .inr ⟨xs ++ [(r2, T, (A, n', c), at2)], ⟨ps.length + 1, by rw [← e1]; simp, ?_⟩, hJx _ _ _ hx3 (((Fr.refl _ _).set (.inl ⟨Nat.le_refl _, _, p43⟩) 0 _).set (.inl ⟨Nat.le_refl _, _, p43⟩) 1 _)⟩⟩
                rw [← e1, List.take_append_of_le_length (by simp), List.take_of_length_le (by simp)]
                exact hmt.snoc rfl HTL.out rfl
            · have hne : ((r1 : Int) != 0) = true := by simp; omega
              gi_wp2_with (first
                | (refine ⟨trivial, fun h => (by cases h), ?_⟩; gi_at_call 34; refine (callsIn_wide.2 (index_s _ _ _)).mono ?_; rintro e w2 ⟨rfl, rfl⟩; rw [hI])
                | (refine ⟨trivial, fun h => (by cases h), ?_⟩; gi_at_call 35; refine (callsIn_wide.2 (one_x _ (S.extract at2 S.size) (by rw [HDS.out]; omega) (by rw [HDS.out]; omega) HRR.out)).mono ?_; rintro e w2 ⟨T, A, n', c, rfl, hok, hb2⟩; have p42 := (p4.below hb2).below (below_alloc1 w2 (.cells #[.int .i64 (r2 : Nat), .string T, .bool false, .slice A n' c, .int .i64 0] 44)); obtain ⟨⟨f0, f1⟩, c0, c1⟩ := p42.facts2))
              refine bodyPost_ret (results_cell_row rfl _ _ _ _ _ _ _ rfl (p42.set2 _ _) Tryd.underlying25 rfl sizeMis) rfl ?_
              have e := HL.out
              rw [HLX.out, HLX2.out, X.lex_err (by rw [size_list]; exact hk) HBL.out (by rw [HR2.out]; exact h0)] at e
              injection e with e1 e2
              rw [List.append_nil] at e1
              subst e1
              exact ⟨⟨_, rfl⟩, .inl ⟨xs, hmt, hJ _ _ _ HJ.out ((((((Fr.refl wr (isMis w.heap.size wr)).below hb2).below (below_alloc1 _ _)).set (.inl ⟨Nat.le_refl _, _, p4⟩) 0 _).set (.inl ⟨Nat.le_refl _, _, p4⟩) 1 _))⟩⟩
          · have dI : decide (I ≥ 0) = true := decide_eq_true (by have := HBI.out; rw [hbl] at this; simpa using this)
            have dJ : decide (0 ≤ I) = true := decide_eq_true (by have := HBI.out; rw [hbl] at this; simpa using this)
            have hnx : X.lex S.data.toList at_ = X.lex S.data.toList (at2 + 1) := by rw [HLX2.out]; exact X.lex_blank (by rw [size_list]; exact hk) (by rw [HBY.out]; exact hbl)
            have HNX := Lib.hid hnx
            clear hnx hbl
            gi_wp2_with (refine ⟨trivial, fun h => (by cases h), ?_⟩; gi_at_call 34; refine (callsIn_wide.2 (index_s _ _ _)).mono ?_; rintro e w2 ⟨rfl, rfl⟩; rw [hI])
            go_roundw
            case rel => exact ⟨at2 + 1, by omega, by go_num, HNX, by omega, by trivial⟩
            case measure => simp [intOf]; omega
        · obtain rfl : at2 = S.size := by omega
          have hend : X.lex S.data.toList S.size = ([], 0, 0) := X.lex_end (by rw [size_list]; exact Nat.le_refl _)
          have HEND := Lib.hid hend
          clear hend
          obtain ⟨⟨f0, f1⟩, c0, c1⟩ := p4.facts2
          gi_wp2
          refine ⟨trivial, ?_⟩
          gi_wp2
          refine bodyPost_ret (results_cell_row rfl _ _ _ _ _ _ _ rfl (p4.set2 _ _) Tryd.underlying25 rfl sizeMis) rfl ?_
          have e := HL.out
          rw [HLX.out, HLX2.out, HEND.out] at e
          injection e with e1 e2
          rw [List.append_nil] at e1
          subst e1
          exact ⟨⟨_, rfl⟩, .inl ⟨xs, hmt, hJ _ _ _ HJ.out (((Fr.refl _ _).set (.inl ⟨Nat.le_refl _, _, p4⟩) 0 _).set (.inl ⟨Nat.le_refl _, _, p4⟩) 1 _)⟩⟩
end Go.Proofs.YtkioaogpmifgeaaDoor

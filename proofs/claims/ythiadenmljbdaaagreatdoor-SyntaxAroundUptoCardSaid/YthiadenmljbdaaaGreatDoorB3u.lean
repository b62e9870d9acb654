/-
  u: the parts PMid WPick of the proof.
-/
import Derived.Test.YthiadenmljbdaaaGreatDoorB15s
import Derived.Test.YthiadenmljbdaaaGreatDoorB2u
import Derived.Test.YthiadenmljbdaaaGreatDoorB38s
import Derived.Test.YthiadenmljbdaaaGreatDoorB7s
import Derived.Test.YthiadenmljbdaaaGreatDoorB1u
section
namespace Go.Proofs.YthiadenmljbdaaaGreatDoor
namespace P
def kx (w : List UInt8) (n : Nat) : List Ky := keys (X.tks w (X.lex w n).1)
def Stop (r : List UInt8) : Prop := r = [] ∨ (X.rowc (r.getD 0 0) = false ∧ r.getD 0 0 ≠ 61)
theorem stop_cons {c : UInt8} {r : List UInt8} (h : X.rowc c = false) (h1 : c ≠ 61) : Stop (c :: r) := .inr ⟨h, h1⟩
theorem nr_cons {c : UInt8} {r : List UInt8} (h : X.rowc c = false) : Nr (c :: r) := .inr h
theorem getD_app {l r : List UInt8} {j : Nat} (h : j < l.length) : (l ++ r).getD j 0 = l.getD j 0 := by
  simp only [List.getD_eq_getElem?_getD]
  rw [List.getElem?_append_left h]
theorem getD_end (l r : List UInt8) : (l ++ r).getD l.length 0 = r.getD 0 0 := by
  simp only [List.getD_eq_getElem?_getD]
  rw [List.getElem?_append_right (Nat.le_refl _), Nat.sub_self]
theorem head_app {l r : List UInt8} (h : l ≠ []) : (l ++ r).headD 0 = l.headD 0 := by
  cases l with
  | nil => exact absurd rfl h
  | cons a b => rfl
theorem row_stop : ∀ (m : List UInt8), X.rowLen m ≠ m.length → X.rowc (m.getD (X.rowLen m) 0) = false
  | [], h => absurd rfl h
  | c :: m, h => by
    by_cases hc : X.rowc c = true
    · have e : X.rowLen (c :: m) = X.rowLen m + 1 := by simp [X.rowLen, List.takeWhile, hc]
      rw [e] at h ⊢
      have := row_stop m (by simpa using h)
      simpa [List.getD] using this
    · have e : X.rowLen (c :: m) = 0 := by simp [X.rowLen, List.takeWhile, hc]
      rw [e]
      simpa [List.getD] using hc
theorem lexF_zero (l : List UInt8) : ∀ (f n : Nat), (X.lexF l f n).2.1 = 0 → (X.lexF l f n).2 = (0, 0)
  | 0, _, _ => rfl
  | f + 1, n, h => by
    unfold X.lexF at h ⊢
    split
    · rfl
    · rename_i h1
      rw [if_neg h1] at h
      split
      · rename_i h2
        rw [if_pos h2] at h
        exact lexF_zero l f _ h
      · rename_i h2
        rw [if_neg h2] at h
        split
        · rename_i h3
          rw [if_pos h3] at h
          exact absurd h h3
        · rename_i h3
          rw [if_neg h3] at h
          exact lexF_zero l f _ h
theorem one_app {m r : List UInt8} (hm : m ≠ []) (hr : Stop r) : X.one (m ++ r) = X.one m := by
  have hlen : 0 < m.length := List.length_pos_iff.2 hm
  have e1 : X.rowLen (m ++ r) = X.rowLen m := by
    have hle := X.rowLen_le m
    refine X.rowLen_eq (by rw [List.length_append]; omega) (fun j hj => ?_) ?_
    · rw [getD_app (by omega)]
      exact rowLen_all hj
    · by_cases h : X.rowLen m = m.length
      · rcases hr with rfl | ⟨hr, _⟩
        · left
          rw [List.append_nil]
          exact h
        · right
          rw [h, getD_end]
          exact hr
      · right
        rw [getD_app (by omega)]
        exact row_stop m h
  have e2 : X.sgnLen (m ++ r) = X.sgnLen m := by
    unfold X.sgnLen
    rw [head_app hm]
    by_cases h1 : 1 < m.length
    · rw [getD_app h1]
      have : 1 < (m ++ r).length := by rw [List.length_append]; omega
      simp only [h1, this]
    · have h2 : m.length = 1 := by omega
      have h3 : (m ++ r).getD 1 0 = r.getD 0 0 := by rw [← h2]; exact getD_end m r
      rw [if_neg (c := 1 < m.length ∧ _) (fun h => h1 h.1), if_neg]
      intro h
      rcases hr with rfl | ⟨_, hr⟩
      · rw [List.append_nil] at h
        exact h1 h.1
      · exact hr (h3 ▸ h.2.1)
  unfold X.one
  rw [e1, e2, List.take_append_of_le_length (X.rowLen_le m)]
theorem kx_tok {w : List UInt8} {n : Nat} (h : n < w.length) (hb : X.blank (w.getD n 0) = false) (he : (X.one (w.drop n)).1 = 0) :
    kx w n = ((X.one (w.drop n)).2.1, ⟨((w.drop n).take (X.one (w.drop n)).2.2).toArray⟩, (if (X.one (w.drop n)).2.1 = 1 then N.ofN (N.val ((w.drop n).take (X.one (w.drop n)).2.2)) else [])) :: kx w (n + (X.one (w.drop n)).2.2) := by
  unfold kx
  rw [X.lex_tok h hb he]
  rfl
theorem kx_end {w : List UInt8} {n : Nat} (h : w.length ≤ n) : kx w n = [] ∧ (X.lex w n).2 = (0, 0) := by
  unfold kx
  rw [X.lex_end h]
  exact ⟨rfl, rfl⟩
theorem kx_mid {s pre r : List UInt8} (hr : Stop r) : ∀ (k n : Nat), k + n = s.length → (X.lex s n).2 = (0, 0) →
    kx (pre ++ (s ++ r)) (pre.length + n) = kx s n ++ kx (pre ++ (s ++ r)) (pre.length + s.length) ∧ (X.lex (pre ++ (s ++ r)) (pre.length + n)).2 = (X.lex (pre ++ (s ++ r)) (pre.length + s.length)).2 := by
  intro k
  induction k using Nat.strongRecOn with
  | _ k ih =>
    intro n hk hz
    by_cases h0 : s.length ≤ n
    · obtain rfl : n = s.length := by omega
      rw [(kx_end (Nat.le_refl _)).1]
      exact ⟨rfl, rfl⟩
    · have hn : n < s.length := by omega
      have hl : pre.length + n < (pre ++ (s ++ r)).length := by simp only [List.length_append]; omega
      have hd : (pre ++ (s ++ r)).drop (pre.length + n) = s.drop n ++ r := by
        rw [← List.drop_drop, List.drop_left, List.drop_append_of_le_length (by omega)]
      have hg : (pre ++ (s ++ r)).getD (pre.length + n) 0 = s.getD n 0 := by
        simp only [List.getD_eq_getElem?_getD]
        rw [List.getElem?_append_right (by omega), Nat.add_sub_cancel_left, List.getElem?_append_left hn]
      by_cases hb : X.blank (s.getD n 0) = true
      · have e1 : kx s n = kx s (n + 1) := by unfold kx; rw [X.lex_blank hn hb]
        have e2 := X.lex_blank hl (by rw [hg]; exact hb)
        have e3 : kx (pre ++ (s ++ r)) (pre.length + n) = kx (pre ++ (s ++ r)) (pre.length + (n + 1)) := by unfold kx; rw [e2]; rfl
        rw [X.lex_blank hn hb] at hz
        rw [e1, e3, e2]
        exact ih (k - 1) (by omega) (n + 1) (by omega) hz
      · have hb' := not_true hb
        have hdn : s.drop n ≠ [] := fun e => by have := congrArg List.length e; simp at this; omega
        have h1 : (X.one (s.drop n)).1 = 0 := by
          by_cases he : (X.one (s.drop n)).1 = 0
          · exact he
          · rw [X.lex_err hn hb' he] at hz
            exact absurd (congrArg Prod.fst hz) he
        have hp := X.one_pos h1
        have ho := one_app hdn hr
        rw [X.lex_tok hn hb' h1] at hz
        rw [List.length_drop] at hp
        have hq := ih (k - (X.one (s.drop n)).2.2) (by omega) (n + (X.one (s.drop n)).2.2) (by omega) hz
        have et := X.lex_tok hl (by rw [hg]; exact hb') (by rw [hd, ho]; exact h1)
        rw [hd, ho] at et
        have e1 := kx_tok hl (by rw [hg]; exact hb') (by rw [hd, ho]; exact h1)
        rw [hd, ho, List.take_append_of_le_length (by rw [List.length_drop]; exact hp.2.2), Nat.add_assoc, hq.1] at e1
        refine ⟨?_, ?_⟩
        · rw [e1, kx_tok hn hb' h1]
          rfl
        · rw [et, Nat.add_assoc]
          exact hq.2
theorem kx_stands {w pre r : List UInt8} {x : Ky} (hw : w = pre ++ (x.2.1.data.toList ++ r)) (hs : Stands x r) : kx w pre.length = x :: kx w (pre.length + x.2.1.data.toList.length) ∧ (X.lex w pre.length).2 = (X.lex w (pre.length + x.2.1.data.toList.length)).2 := by
  obtain ⟨h1, h2, h3⟩ := hs
  have hd : w.drop pre.length = x.2.1.data.toList ++ r := by rw [hw, List.drop_left]
  have hp := X.one_pos (l := x.2.1.data.toList ++ r) (by rw [h1])
  rw [h1] at hp
  have hl : pre.length < w.length := by rw [hw]; have := hp.1; dsimp only at this; simp only [List.length_append]; omega
  have hb : X.blank (w.getD pre.length 0) = false := by
    have e : w.getD pre.length 0 = (w.drop pre.length).getD 0 0 := by simp [List.getD]
    rw [e, hd]; exact h2
  have et := X.lex_tok hl hb (by rw [hd, h1])
  have ek := kx_tok hl hb (by rw [hd, h1])
  rw [hd, h1] at et ek
  dsimp only at et ek
  rw [List.take_left, ← h3] at ek
  exact ⟨ek, by rw [et]⟩
theorem kx_blank {w pre r : List UInt8} {c : UInt8} (hw : w = pre ++ c :: r) (hc : X.blank c = true) : kx w pre.length = kx w (pre.length + 1) ∧ (X.lex w pre.length).2 = (X.lex w (pre.length + 1)).2 := by
  have h1 : pre.length < w.length := by rw [hw]; simp
  have h2 : w.getD pre.length 0 = c := by rw [hw]; simp [List.getD]
  unfold kx
  rw [X.lex_blank h1 (by rw [h2]; exact hc)]
  exact ⟨rfl, rfl⟩
def Fine (w : List UInt8) (l : List Ky) : Prop := kx w 0 = l ∧ (X.lex w 0).2 = (0, 0)
theorem ans_fine {w : List UInt8} {l : List Ky} (h : Fine w l) (hl : w.length ≤ 4096) : X.ans w = X.lex w 0 := by
  have ht : X.tokens w = X.lex w 0 := by unfold X.tokens; first | rw [if_neg (by omega)] | rw [if_pos (by omega)]
  unfold X.ans
  rw [ht, if_pos (by rw [h.2])]
theorem size_list (S : ByteArray) : S.data.toList.length = S.size := by rw [Array.length_toList]; rfl
theorem res_ok {S : ByteArray} {t : T} (h : res S = (0, 0, t)) : S.size ≤ 4096 ∧ (∃ l, Fine S.data.toList l ∧ ∃ e x, keys x = l ∧ read e x = .ok t []) ∧ t.depth ≤ 60 := by
  unfold res at h
  by_cases h0 : 4096 < S.size
  · rw [if_pos h0] at h
    injection h with h _
    exact absurd h (by decide)
  rw [if_neg h0] at h
  by_cases h1 : (X.ans S.data.toList).2.1 ≠ 0
  · rw [if_pos h1] at h
    injection h with h _
    exact absurd h h1
  rw [if_neg h1] at h
  have hl : S.data.toList.length ≤ 4096 := by rw [size_list]; omega
  have ht : X.tokens S.data.toList = X.lex S.data.toList 0 := by unfold X.tokens; first | rw [if_neg (by omega)] | rw [if_pos (by omega)]
  have hz : (X.tokens S.data.toList).2.1 = 0 := by
    by_cases hz : (X.tokens S.data.toList).2.1 = 0
    · exact hz
    · exfalso
      apply h1
      unfold X.ans
      rw [if_neg hz]
      exact hz
  have ha : X.ans S.data.toList = X.lex S.data.toList 0 := by
    unfold X.ans
    rw [if_pos hz, ht]
  rw [ha] at h
  rw [ht] at hz
  have hzz : (X.lex S.data.toList 0).2 = (0, 0) := lexF_zero _ _ _ hz
  obtain ⟨⟨r, hr⟩, hd⟩ := resOf_ok (read_nb _ _) (read_out _ _) h
  obtain rfl := (read_ok hr).2
  exact ⟨by omega, ⟨_, ⟨rfl, hzz⟩, S.size, _, rfl, hr⟩, hd⟩
theorem res_of {S : ByteArray} {l : List Ky} {t : T} (hs : S.size ≤ 4096) (hf : Fine S.data.toList l) (hr : ∀ e x, keys x = l → read e x = .ok t []) : res S = if 60 < t.depth then (43, 0, t0) else (0, 0, t) := by
  have ha := ans_fine hf (by rw [size_list]; exact hs)
  have hz := hf.2
  unfold res
  rw [if_neg (by omega), ha, if_neg (by rw [hz]; decide), hr S.size _ hf.1]
  unfold resOf
  rfl
def Seg (x : List UInt8) (l : List Ky) (r : List UInt8) : Prop := ∀ pre, kx (pre ++ (x ++ r)) pre.length = l ++ kx (pre ++ (x ++ r)) (pre.length + x.length) ∧ (X.lex (pre ++ (x ++ r)) pre.length).2 = (X.lex (pre ++ (x ++ r)) (pre.length + x.length)).2
theorem Seg.app {x y r : List UInt8} {l m : List Ky} (h : Seg x l (y ++ r)) (k : Seg y m r) : Seg (x ++ y) (l ++ m) r := fun pre => by
  have h1 := h pre
  have h2 := k (pre ++ x)
  rw [List.append_assoc] at h2
  rw [List.append_assoc, h1.1, h1.2, List.length_append, ← Nat.add_assoc, ← List.length_append, h2.1, h2.2, List.append_assoc]
  exact ⟨rfl, rfl⟩
theorem Seg.fine {x : List UInt8} {l : List Ky} (h : Seg x l []) : Fine x l := by
  have h1 := h []
  rw [List.append_nil, List.nil_append] at h1
  have h2 := kx_end (w := x) (n := ([] : List UInt8).length + x.length) (by simp)
  rw [h2.1, h2.2, List.append_nil] at h1
  exact h1
theorem seg_text {s r : List UInt8} {l : List Ky} (h : Fine s l) (hr : Stop r) : Seg s l r := fun pre => by
  have h1 := kx_mid (pre := pre) hr s.length 0 (by omega) h.2
  rw [h.1] at h1
  exact h1
theorem seg_blank {c : UInt8} (hc : X.blank c = true) (r : List UInt8) : Seg [c] [] r := fun _ => kx_blank rfl hc
theorem seg_word {x : Ky} {r : List UInt8} (h : Stands x r) : Seg x.2.1.data.toList [x] r := fun _ => kx_stands rfl h
theorem seg_sign {c : UInt8} (h : c ∈ [61, 43, 45, 42, 46, 40, 41]) (r : List UInt8) : Seg [c] [(4, ⟨#[c]⟩, [])] r := seg_word (x := (4, ⟨#[c]⟩, [])) (sg1_stands h r)
theorem list_app (A B : ByteArray) : (A ++ B).data.toList = A.data.toList ++ B.data.toList := by
  rw [ByteArray.data_append, Array.toList_append]
def around (S : ByteArray) : ByteArray := ⟨#[40, 32]⟩ ++ S ++ ⟨#[9, 41]⟩
theorem around_size (S : ByteArray) : (around S).size = S.size + 4 := by
  unfold around
  rw [ByteArray.size_append, ByteArray.size_append]
  show 2 + S.size + 2 = S.size + 4
  omega
theorem res_around {S : ByteArray} {t : T} (h : res S = (0, 0, t)) (hl : (around S).size ≤ 4096) : res (around S) = (0, 0, t) := by
  obtain ⟨_, ⟨l, hf, e, x, hx, hr⟩, hd⟩ := res_ok h
  have h1 : Fine (around S).data.toList ((4, ⟨#[40]⟩, []) :: (l ++ [(4, ⟨#[41]⟩, [])])) := by
    have := ((seg_sign (c := 40) (by decide) _).app ((seg_blank (c := 32) rfl _).app ((seg_text hf (stop_cons (c := 9) (by decide) (by decide))).app ((seg_blank (c := 9) rfl _).app (seg_sign (c := 41) (by decide) []))))).fine
    have e1 : (around S).data.toList = [40] ++ ([32] ++ (S.data.toList ++ ([9] ++ [41]))) := by
      unfold around
      rw [list_app, list_app]
      simp
    rw [e1]
    exact this
  rw [res_of hl h1 (fun e' y hy => read_paren hr (by rw [hx]; exact hy)), if_neg (by omega)]
def arounds (S : ByteArray) : Nat → ByteArray
  | 0 => S
  | n + 1 => around (arounds S n)
theorem arounds_size (S : ByteArray) : ∀ n, (arounds S n).size = S.size + 4 * n
  | 0 => rfl
  | n + 1 => by rw [arounds, around_size, arounds_size S n]; omega
theorem res_arounds {S : ByteArray} {t : T} (h : res S = (0, 0, t)) : ∀ n, (arounds S n).size ≤ 4096 → res (arounds S n) = (0, 0, t)
  | 0, _ => h
  | n + 1, hl => res_around (res_arounds h n (by rw [arounds_size] at hl ⊢; omega)) hl
def joined (A W B : ByteArray) : ByteArray := ⟨#[40]⟩ ++ A ++ ⟨#[41, 32]⟩ ++ W ++ ⟨#[32, 40]⟩ ++ B ++ ⟨#[41]⟩
theorem res_joined {A B W : ByteArray} {t u : T} {k : Int} (ha : res A = (0, 0, t)) (hb : res B = (0, 0, u))
    (hk : (W = ⟨#[97, 110, 100]⟩ ∧ k = 17) ∨ (W = ⟨#[111, 114]⟩ ∧ k = 18) ∨ (W = ⟨#[105, 109, 112, 108, 105, 101, 115]⟩ ∧ k = 19) ∨ (W = ⟨#[105, 102, 102]⟩ ∧ k = 20))
    (hl : (joined A W B).size ≤ 4096) : res (joined A W B) = if 60 < (nd k [t, u]).depth then (43, 0, t0) else (0, 0, nd k [t, u]) := by
  obtain ⟨_, ⟨la, fa, ea, xa, ka, ra⟩, _⟩ := res_ok ha
  obtain ⟨_, ⟨lb, fb, eb, xb, kb, rb⟩, _⟩ := res_ok hb
  have hw : W.data.toList ∈ X.words := by rcases hk with ⟨rfl, _⟩ | ⟨rfl, _⟩ | ⟨rfl, _⟩ | ⟨rfl, _⟩ <;> decide
  have h1 : Fine (joined A W B).data.toList ((4, ⟨#[40]⟩, []) :: (la ++ (4, ⟨#[41]⟩, []) :: (3, W, []) :: (4, ⟨#[40]⟩, []) :: (lb ++ [(4, ⟨#[41]⟩, [])]))) := by
    have := ((seg_sign (c := 40) (by decide) _).app ((seg_text fa (stop_cons (c := 41) (by decide) (by decide))).app ((seg_sign (c := 41) (by decide) _).app ((seg_blank (c := 32) rfl _).app
      ((seg_word (x := (3, W, [])) (kw_stands hw (nr_cons (c := 32) (by decide)))).app ((seg_blank (c := 32) rfl _).app ((seg_sign (c := 40) (by decide) _).app ((seg_text fb (stop_cons (c := 41) (by decide) (by decide))).app (seg_sign (c := 41) (by decide) []))))))))).fine
    have e1 : (joined A W B).data.toList = [40] ++ (A.data.toList ++ ([41] ++ ([32] ++ (W.data.toList ++ ([32] ++ ([40] ++ (B.data.toList ++ [41]))))))) := by
      unfold joined
      simp only [list_app]
      simp
    rw [e1]
    exact this
  exact res_of hl h1 (fun e' y hy => read_join ra rb hk (by rw [ka, kb]; exact hy))
def noted (A : ByteArray) : ByteArray := ⟨#[110, 111, 116, 32, 40]⟩ ++ A ++ ⟨#[41]⟩
theorem res_noted {A : ByteArray} {t : T} (ha : res A = (0, 0, t)) (hl : (noted A).size ≤ 4096) : res (noted A) = if 60 < (nd 16 [t]).depth then (43, 0, t0) else (0, 0, nd 16 [t]) := by
  obtain ⟨_, ⟨la, fa, ea, xa, ka, ra⟩, _⟩ := res_ok ha
  have h1 : Fine (noted A).data.toList ((3, ⟨#[110, 111, 116]⟩, []) :: (4, ⟨#[40]⟩, []) :: (la ++ [(4, ⟨#[41]⟩, [])])) := by
    have := ((seg_word (x := (3, ⟨#[110, 111, 116]⟩, [])) (kw_stands (by decide) (nr_cons (c := 32) (by decide)))).app ((seg_blank (c := 32) rfl _).app ((seg_sign (c := 40) (by decide) _).app ((seg_text fa (stop_cons (c := 41) (by decide) (by decide))).app (seg_sign (c := 41) (by decide) []))))).fine
    have e1 : (noted A).data.toList = [110, 111, 116] ++ ([32] ++ ([40] ++ (A.data.toList ++ [41]))) := by
      unfold noted
      simp only [list_app]
      simp
    rw [e1]
    exact this
  exact res_of hl h1 (fun e' y hy => read_not ra (by rw [ka]; exact hy))
end P
end Go.Proofs.YthiadenmljbdaaaGreatDoor
end
section
namespace Go.Proofs.YthiadenmljbdaaaGreatDoor
open Go.RowKit
def pk (z : Int) (n : Nat) : Nat := (if z < 0 then -(z + 1) else z).toNat % n
set_option maxHeartbeats 1600000 in
theorem pick_z (w : World) (z : Int) (hz : -9223372036854775808 ≤ z ∧ z < 9223372036854775808) (n : Nat) (hn : 0 < n) (hn2 : n ≤ 5000) :
    Calls Tryz.prog 31 #[.int .i64 z, .int .i64 (n : Nat)] w fun e w' => e = .returned (.int .i64 (pk z n : Nat)) ∧ w = w' := by
  obtain ⟨h1, h2⟩ := hz
  have n0 : ((n : Int) == 0) = false := by simp; omega
  have n1 : ((n : Int) == -1) = false := by simp
  have n2 : ¬ ((n : Int) = 0) := by omega
  have n3 : (n : Int) ≤ 5000 := by omega
  by_cases h0 : z < 0
  · have d1 : decide (z < 0) = true := decide_eq_true h0
    obtain ⟨q, hq⟩ : ∃ q : Nat, -(z + 1) = (q : Int) := ⟨(-(z + 1)).toNat, by omega⟩
    have hm : ((q : Int).tmod n) = ((q % n : Nat) : Int) := by rw [Int.tmod_eq_emod_of_nonneg (by omega)]; exact (Int.natCast_emod q n).symm
    have hlt := Nat.mod_lt q hn
    have hlt2 : q % n ≤ 5000 := by omega
    have hp : pk z n = q % n := by unfold pk; rw [if_pos h0, hq, Int.toNat_natCast]
    have HP := Lib.hid hp
    clear hp
    go_enter Tryz.func31, Tryz.ntmps31
    go_wp2_with fail
    go_ret
    exact ⟨by rw [HP.out]; rfl, rfl⟩
  · obtain ⟨q, rfl⟩ : ∃ q : Nat, z = (q : Int) := ⟨z.toNat, by omega⟩
    have d1 : decide ((q : Int) < 0) = false := decide_eq_false h0
    have hm : ((q : Int).tmod n) = ((q % n : Nat) : Int) := by rw [Int.tmod_eq_emod_of_nonneg (by omega)]; exact (Int.natCast_emod q n).symm
    have hlt := Nat.mod_lt q hn
    have hp : pk (q : Int) n = q % n := by unfold pk; rw [if_neg h0, Int.toNat_natCast]
    have HP := Lib.hid hp
    clear hp
    go_enter Tryz.func31, Tryz.ntmps31
    go_wp2_with fail
    go_ret
    exact ⟨by rw [HP.out]; rfl, rfl⟩
theorem pk_lt (z : Int) {n : Nat} (h : 0 < n) : pk z n < n := Nat.mod_lt _ h
end Go.Proofs.YthiadenmljbdaaaGreatDoor
end

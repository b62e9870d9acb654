/-
  v: the parts PLeast PLeast2 PGo of the proof.
-/
import Derived.Test.YthiadenmljbdaaaGreatDoorB11s
import Derived.Test.YthiadenmljbdaaaGreatDoorB1v
section
namespace Go.Proofs.YthiadenmljbdaaaGreatDoor
namespace P
def itP : It → Nat
  | Option.none => 0
  | Option.some x => if x.1 = 4 ∧ x.2.1 = ⟨#[40]⟩ then 1 else 0
def pc : List It → Nat
  | [] => 0
  | x :: l => itP x + pc l
def wc : List Wd → Nat
  | [] => 0
  | x :: l => (if x.2.1 = ⟨#[40]⟩ then 1 else 0) + wc l
theorem pc_app : ∀ a b : List It, pc (a ++ b) = pc a + pc b
  | [], b => by simp [pc]
  | x :: a, b => by rw [List.cons_append, pc, pc, pc_app a b]; omega
theorem pc_none (l : List It) : pc (Option.none :: l) = pc l := by rw [pc]; exact Nat.zero_add _
theorem pc_word {k : Nat} (s : ByteArray) (m : List Nat) (l : List It) (h : k ≠ 4 ∨ s ≠ ⟨#[40]⟩) : pc (Option.some (k, s, m) :: l) = pc l := by
  rw [pc]
  have : itP (Option.some (k, s, m)) = 0 := if_neg (fun h2 => h.elim (fun h => h h2.1) (fun h => h h2.2))
  omega
theorem pc_sg {c : UInt8} (h : c ≠ 40) (l : List It) : pc (Sg ⟨#[c]⟩ :: l) = pc l := pc_word _ _ _ (.inr fun e => h (by injection e with e; injection e with e; injection e))
theorem pc_par (l : List It) : pc (par l) = pc l + 1 := by
  unfold par
  rw [pc, pc_app, pc_sg (by decide)]
  show 1 + (pc l + 0) = _
  omega
theorem wc_tail (l : List Wd) : wc l.tail ≤ wc l := by
  cases l with
  | nil => exact Nat.le_refl _
  | cons x l => rw [wc]; exact Nat.le_add_left _ _
theorem wc_par {l : List Wd} (h : isW ⟨#[40]⟩ l = true) : wc l = wc l.tail + 1 := by
  obtain ⟨t, r, rfl, h2⟩ := isW_cons h
  rw [wc, if_pos h2, List.tail_cons]
  omega
theorem wc_beh : ∀ l : List Wd, wc (beh l) ≤ wc l
  | [] => Nat.le_refl _
  | x :: l => by
    unfold beh
    by_cases hx : (x.1 == 2) = true
    · rw [List.dropWhile_cons_of_pos (p := fun t : Wd => t.1 == 2) hx, wc]
      have := wc_beh l
      unfold beh at this
      omega
    · rw [List.dropWhile_cons_of_neg (p := fun t : Wd => t.1 == 2) hx]
      exact Nat.le_refl _
def FP (p : Pt) : Prop := pc (p.2 false) ≤ pc (p.2 true) + 1
theorem fp0 : FP p0 := Nat.zero_le _
theorem cw_or (n : Nat) (last : Bool) (p : Pt) : (wrap n last p = par (p.2 true) ∧ (level p.1 < n ∨ (binds p.1 = true ∧ last = false))) ∨ (wrap n last p = p.2 last ∧ ¬ (level p.1 < n ∨ (binds p.1 = true ∧ last = false))) := by
  unfold wrap
  split
  · exact .inl ⟨rfl, by assumption⟩
  · exact .inr ⟨rfl, by assumption⟩
theorem fp_last {p : Pt} (h : FP p) (last : Bool) : pc (p.2 last) ≤ pc (p.2 true) + 1 := by
  cases last
  · exact h
  · exact Nat.le_succ _
theorem cw_le {p : Pt} (h : FP p) (n : Nat) (last : Bool) : pc (wrap n last p) ≤ pc (p.2 true) + 1 := by
  rcases cw_or n last p with ⟨e, _⟩ | ⟨e, _⟩
  · rw [e, pc_par]
    exact Nat.le_refl _
  · rw [e]
    exact fp_last h last
theorem cw_mono {p : Pt} (h : FP p) {n m : Nat} (hn : n ≤ m) (last : Bool) : pc (wrap n last p) ≤ pc (wrap m last p) := by
  rcases cw_or m last p with ⟨e, _⟩ | ⟨e, hm⟩
  · rw [e, pc_par]
    exact cw_le h n last
  · rcases cw_or n last p with ⟨_, hc⟩ | ⟨e2, _⟩
    · exact absurd (hc.imp (fun h => by omega) id) hm
    · rw [e, e2]
      exact Nat.le_refl _
theorem cw_fp {p : Pt} (h : FP p) (n : Nat) : pc (wrap n false p) ≤ pc (wrap n true p) + 1 := by
  rcases cw_or n true p with ⟨e, ht⟩ | ⟨e, _⟩
  · rcases cw_or n false p with ⟨e2, _⟩ | ⟨_, hf⟩
    · rw [e, e2]
      exact Nat.le_succ _
    · exact absurd (ht.imp id (fun h => absurd h.2 (by decide))) hf
  · rw [e]
    exact cw_le h n false
theorem row_fp {w : ByteArray} {o : Nat} : ∀ {ps : List Pt}, (∀ p ∈ ps, FP p) → pc (rowR w o false ps) ≤ pc (rowR w o true ps) + 1
  | [], _ => Nat.zero_le _
  | p :: ps, h => by
    have ih := row_fp (w := w) (o := o) (ps := ps) (fun q hq => h q (List.mem_cons_of_mem _ hq))
    have h0 := cw_fp (h p List.mem_cons_self) o
    unfold rowR
    rw [pc_none, pc_word _ _ _ (.inl (by decide)), pc_none, pc_none, pc_word _ _ _ (.inl (by decide)), pc_none, pc_app, pc_app]
    cases ps with
    | nil =>
      have e : ∀ b, pc (rowR w o b []) = 0 := fun _ => rfl
      rw [e, e]
      exact Nat.add_le_add_right h0 0
    | cons q ps =>
      have e : ∀ b : Bool, (b && (q :: ps).isEmpty) = false := fun b => by cases b <;> rfl
      rw [e, e]
      omega
theorem fp_get {ps : List Pt} (h : ∀ p ∈ ps, FP p) (i : Nat) : FP (ps.getD i p0) := by
  by_cases hi : i < ps.length
  · rw [List.getD_eq_getElem?_getD, List.getElem?_eq_getElem hi]
    exact h _ (List.getElem_mem hi)
  · rw [List.getD_eq_getElem?_getD, List.getElem?_eq_none (by omega)]
    exact fp0
theorem rowF_fp {w : ByteArray} {n o : Nat} {ps : List Pt} (h : ∀ p ∈ ps, FP p) : pc (row w n o false ps) ≤ pc (row w n o true ps) + 1 := by
  cases ps with
  | nil => exact Nat.zero_le _
  | cons p ps =>
    have := row_fp (w := w) (o := o) (ps := ps) (fun q hq => h q (List.mem_cons_of_mem _ hq))
    unfold row
    rw [pc_app, pc_app]
    omega
theorem asm_fp (k : Int) (nm : ByteArray) (ns : List ByteArray) (m : List Nat) {ps : List Pt} (h : ∀ p ∈ ps, FP p) : pc (asm k nm ns m ps false) ≤ pc (asm k nm ns m ps true) + 1 := by
  have h0 := fp_get h 0
  unfold asm
  dsimp only
  generalize ps.getD 0 p0 = a at h0
  generalize ps.getD 1 p0 = b
  by_cases h1 : k = 1
  · rw [if_pos h1, if_pos h1]
    exact Nat.le_succ _
  rw [if_neg h1, if_neg h1]
  by_cases h2 : k = 2
  · rw [if_pos h2, if_pos h2]
    exact Nat.le_succ _
  rw [if_neg h2, if_neg h2]
  by_cases h3 : k = 3
  · rw [if_pos h3, if_pos h3]
    exact Nat.le_succ _
  rw [if_neg h3, if_neg h3]
  by_cases h4 : k = 4
  · rw [if_pos h4, if_pos h4]
    exact Nat.le_succ _
  rw [if_neg h4, if_neg h4]
  by_cases h5 : k = 5
  · rw [if_pos h5, if_pos h5]
    exact Nat.le_succ _
  rw [if_neg h5, if_neg h5]
  by_cases h6 : k = 6
  · rw [if_pos h6, if_pos h6]
    exact Nat.le_succ _
  rw [if_neg h6, if_neg h6]
  by_cases h7 : k = 7
  · rw [if_pos h7, if_pos h7]
    exact Nat.le_succ _
  rw [if_neg h7, if_neg h7]
  by_cases h8 : k = 8
  · rw [if_pos h8, if_pos h8]
    exact Nat.le_succ _
  rw [if_neg h8, if_neg h8]
  by_cases h15 : k = 15
  · rw [if_pos h15, if_pos h15]
    exact Nat.le_succ _
  rw [if_neg h15, if_neg h15]
  by_cases h16 : k = 16
  · rw [if_pos h16, if_pos h16]
    rw [pc_word _ _ _ (.inl (by decide)), pc_none, pc_word _ _ _ (.inl (by decide)), pc_none]
    exact cw_fp h0 5
  rw [if_neg h16, if_neg h16]
  by_cases h17 : k = 17
  · rw [if_pos h17, if_pos h17]
    exact rowF_fp h
  rw [if_neg h17, if_neg h17]
  by_cases h18 : k = 18
  · rw [if_pos h18, if_pos h18]
    exact rowF_fp h
  rw [if_neg h18, if_neg h18]
  by_cases h19 : k = 19
  · rw [if_pos h19, if_pos h19]
    exact rowF_fp h
  rw [if_neg h19, if_neg h19]
  by_cases h20 : k = 20
  · rw [if_pos h20, if_pos h20]
    exact rowF_fp h
  rw [if_neg h20, if_neg h20]
  by_cases h21 : k = 21
  · rw [if_pos h21, if_pos h21]
    rw [pc_word _ _ _ (.inl (by decide)), pc_none, pc_app, pc_sg (by decide), pc_none, pc_word _ _ _ (.inl (by decide)), pc_none, pc_app, pc_sg (by decide), pc_none]
    have := cw_fp h0 1
    omega
  rw [if_neg h21, if_neg h21]
  by_cases h22 : k = 22
  · rw [if_pos h22, if_pos h22]
    rw [pc_word _ _ _ (.inl (by decide)), pc_none, pc_app, pc_sg (by decide), pc_none, pc_word _ _ _ (.inl (by decide)), pc_none, pc_app, pc_sg (by decide), pc_none]
    have := cw_fp h0 1
    omega
  rw [if_neg h22, if_neg h22]
  exact Nat.le_succ _
mutual
theorem body_fp : ∀ t : T, FP (pt t)
  | .node k nm ns ng m ks => by
    show pc (body (.node k nm ns ng m ks) false) ≤ pc (body (.node k nm ns ng m ks) true) + 1
    exact asm_fp k nm ns m (parts_fp ks)
theorem parts_fp : ∀ ks : List T, ∀ p ∈ parts ks, FP p
  | [], _, h => by cases h
  | t :: r, p, h => by
    rw [parts_cons] at h
    rcases List.mem_cons.1 h with rfl | h
    · exact body_fp t
    · exact parts_fp r p h
end
def cb (t : T) (last : Bool) : Nat := pc (body t last)
def cw (n : Nat) (last : Bool) (t : T) : Nat := pc (wrap n last (pt t))
def ct (t : T) : Nat := pc (tight (pt t))
theorem ct_le (t : T) : ct t ≤ cb t true + 1 := by
  unfold ct tight
  split
  · rw [pc_par]; exact Nat.le_refl _
  · exact Nat.le_succ _
theorem ct_eq {t : T} (h : ¬ (t.k = 4 ∨ t.k = 5)) : ct t = cb t true := by
  unfold ct tight
  rw [if_neg (show ¬ ((pt t).1 = 4 ∨ (pt t).1 = 5) from h)]
  rfl
theorem cb_ct (t : T) : cb t true ≤ ct t := by
  unfold ct tight
  split
  · rw [pc_par]; exact Nat.le_succ _
  · exact Nat.le_refl _
theorem cw_body {n : Nat} {last : Bool} {t : T} (h : ¬ (level t.k < n ∨ (binds t.k = true ∧ last = false))) : cw n last t = cb t last := by
  rcases cw_or n last (pt t) with ⟨_, hc⟩ | ⟨e, _⟩
  · exact absurd hc h
  · unfold cw
    rw [e]
    rfl
theorem cw_up (t : T) {n m : Nat} (hn : n ≤ m) (last : Bool) : cw n last t ≤ cw m last t := cw_mono (body_fp t) hn last
theorem cw_par (t : T) (n : Nat) (last : Bool) : cw n last t ≤ cb t true + 1 := cw_le (body_fp t) n last
theorem cw_one (t : T) : cw 1 true t = cb t true := by
  refine cw_body (fun h => ?_)
  rcases h with h | h
  · unfold level at h
    repeat' split at h
    all_goals omega
  · exact absurd h.2 (by decide)
end P
end Go.Proofs.YthiadenmljbdaaaGreatDoor
end
section
namespace Go.Proofs.YthiadenmljbdaaaGreatDoor
namespace P
def nl (r : List Wd) : Bool := decide (cl r = 0)
theorem nl_no {r : List Wd} (h : cl r ≠ 0) : nl r = false := decide_eq_false h
theorem nl_yes {r : List Wd} (h : cl r = 0) : nl r = true := decide_eq_true h
theorem cl_of {r : List Wd} (h : isW ⟨#[97, 110, 100]⟩ r = true ∨ isW ⟨#[111, 114]⟩ r = true ∨ isW ⟨#[105, 109, 112, 108, 105, 101, 115]⟩ r = true ∨ isW ⟨#[105, 102, 102]⟩ r = true) : cl r ≠ 0 := by
  intro hc
  unfold cl at hc
  split at hc
  · omega
  split at hc
  · omega
  split at hc
  · omega
  split at hc
  · omega
  rcases h with h | h | h | h <;> contradiction
theorem cl4 (r : List Wd) : cl r ≤ 4 := by
  unfold cl
  split
  · exact Nat.le_refl _
  split
  · omega
  split
  · omega
  split <;> omega
theorem cl_lt {r : List Wd} {n : Nat} (h : cl r ≤ n + 1) (hn : (n = 3 ∧ ¬ isW ⟨#[97, 110, 100]⟩ r = true) ∨ (n = 2 ∧ ¬ isW ⟨#[111, 114]⟩ r = true) ∨ (n = 1 ∧ ¬ isW ⟨#[105, 109, 112, 108, 105, 101, 115]⟩ r = true) ∨ (n = 0 ∧ ¬ isW ⟨#[105, 102, 102]⟩ r = true)) : cl r ≤ n := by
  unfold cl at h ⊢
  split
  · rename_i h1
    rw [if_pos h1] at h
    rcases hn with ⟨rfl, h2⟩ | ⟨rfl, _⟩ | ⟨rfl, _⟩ | ⟨rfl, _⟩
    · exact absurd h1 h2
    all_goals omega
  rename_i h1
  rw [if_neg h1] at h
  split
  · rename_i h2
    rw [if_pos h2] at h
    rcases hn with ⟨rfl, _⟩ | ⟨rfl, h3⟩ | ⟨rfl, _⟩ | ⟨rfl, _⟩
    · omega
    · exact absurd h2 h3
    all_goals omega
  rename_i h2
  rw [if_neg h2] at h
  split
  · rename_i h3
    rw [if_pos h3] at h
    rcases hn with ⟨rfl, _⟩ | ⟨rfl, _⟩ | ⟨rfl, h4⟩ | ⟨rfl, _⟩
    · omega
    · omega
    · exact absurd h3 h4
    · omega
  rename_i h3
  rw [if_neg h3] at h
  split
  · rename_i h4
    rcases hn with ⟨rfl, _⟩ | ⟨rfl, _⟩ | ⟨rfl, _⟩ | ⟨rfl, h5⟩
    · omega
    · omega
    · omega
    · exact absurd h4 h5
  · omega
def acc (n : Nat) (b : Bool) : List T → Nat
  | [] => 0
  | [t] => cw n b t
  | t :: u :: r => cw n false t + acc n b (u :: r)
theorem acc_snoc (n : Nat) (b : Bool) (u : T) : ∀ (ks : List T), ks ≠ [] → acc n b (ks ++ [u]) = acc n false ks + cw n b u
  | [], h => absurd rfl h
  | [t], _ => rfl
  | t :: v :: r, _ => by
    have ih := acc_snoc n b u (v :: r) (by simp)
    show cw n false t + acc n b (v :: r ++ [u]) = cw n false t + acc n false (v :: r) + cw n b u
    rw [ih]
    omega
theorem acc_row {w : ByteArray} (n : Nat) (b : Bool) : ∀ (ks : List T), ks ≠ [] → pc (rowR w n b (parts ks)) = acc n b ks
  | [], h => absurd rfl h
  | [t], _ => by
    rw [parts_cons]
    unfold rowR
    rw [pc_none, pc_word _ _ _ (.inl (by decide)), pc_none, pc_app]
    have e : ∀ b : Bool, (b && (parts ([] : List T)).isEmpty) = b := fun b => by cases b <;> rfl
    rw [e]
    rfl
  | t :: v :: r, _ => by
    have ih := acc_row (w := w) n b (v :: r) (by simp)
    rw [parts_cons]
    unfold rowR
    rw [pc_none, pc_word _ _ _ (.inl (by decide)), pc_none, pc_app, ih]
    have e : ∀ b : Bool, (b && (parts (v :: r)).isEmpty) = false := fun b => by rw [parts_cons]; cases b <;> rfl
    rw [e]
    rfl
theorem cb_and (b : Bool) : ∀ {ks : List T}, 2 ≤ ks.length → cb (nd 17 ks) b = acc 5 b ks
  | [], h => absurd h (by simp)
  | [_], h => absurd h (by simp)
  | t :: u :: r, _ => by
    unfold cb
    rw [body_and, pc_app, acc_row _ _ _ (by simp)]
    rfl
theorem cb_or (b : Bool) : ∀ {ks : List T}, 2 ≤ ks.length → cb (nd 18 ks) b = acc 4 b ks
  | [], h => absurd h (by simp)
  | [_], h => absurd h (by simp)
  | t :: u :: r, _ => by
    unfold cb
    rw [body_or, pc_app, acc_row _ _ _ (by simp)]
    rfl
theorem cb_imp (b : Bool) (t u : T) : cb (nd 19 [t, u]) b = cw 3 false t + cw 2 b u := by
  unfold cb
  rw [body_imp, pc_app, pc_none, pc_word _ _ _ (.inl (by decide)), pc_none]
  rfl
theorem cb_iff (b : Bool) (t u : T) : cb (nd 20 [t, u]) b = cw 1 false t + cw 2 b u := by
  unfold cb
  rw [body_iff, pc_app, pc_none, pc_word _ _ _ (.inl (by decide)), pc_none]
  rfl
theorem cb_not (b : Bool) (t : T) : cb (nd 16 [t]) b = cw 5 b t := by
  unfold cb
  rw [body_not, pc_word _ _ _ (.inl (by decide)), pc_none]
  rfl
theorem pc_names (l : List It) : ∀ ns : List ByteArray, pc (namesIt ns ++ l) = pc l
  | [] => rfl
  | s :: ns => by
    show pc (Nm s :: Option.none :: (namesIt ns ++ l)) = pc l
    rw [pc_word _ _ _ (.inl (by decide)), pc_none, pc_names l ns]
theorem cb_some (b : Bool) (ns : List ByteArray) (t : T) : cb (.node 21 ⟨#[]⟩ ns false [] [t]) b = cw 1 b t := by
  unfold cb
  rw [body_some, pc_word _ _ _ (.inl (by decide)), pc_none, pc_names, pc_sg (by decide), pc_none]
  rfl
theorem cb_all (b : Bool) (ns : List ByteArray) (t : T) : cb (.node 22 ⟨#[]⟩ ns false [] [t]) b = cw 1 b t := by
  unfold cb
  rw [body_all, pc_word _ _ _ (.inl (by decide)), pc_none, pc_names, pc_sg (by decide), pc_none]
  rfl
theorem cb_div (b : Bool) (m : List Nat) (t : T) : cb (.node 15 ⟨#[]⟩ [] false m [t]) b = cb t true := by
  unfold cb
  rw [body_div, pc_word _ _ _ (.inl (by decide)), pc_none, pc_word _ _ _ (.inl (by decide)), pc_none]
theorem sgn_no {k : Int} (hk : 9 ≤ k ∧ k ≤ 14) (l : List It) : pc (Sg (sgn k) :: l) = pc l := by
  refine pc_word _ _ _ (.inr ?_)
  have : k = 9 ∨ k = 10 ∨ k = 11 ∨ k = 12 ∨ k = 13 ∨ k = 14 := by omega
  rcases this with rfl | rfl | rfl | rfl | rfl | rfl <;> decide
theorem cb_cmp (b : Bool) {k : Int} (hk : 9 ≤ k ∧ k ≤ 14) (t u : T) : cb (nd k [t, u]) b = cb t true + cb u true := by
  unfold cb
  rw [body_cmp hk, pc_app, pc_none, sgn_no hk, pc_none]
theorem cb_neg (t : T) : cb (nd 3 [t]) true = ct t := by
  unfold cb
  rw [body_neg, pc_sg (by decide)]
  rfl
theorem cb_add (t u : T) : cb (nd 4 [t, u]) true = cb t true + ct u := by
  unfold cb
  rw [body_add, pc_app, pc_none, pc_sg (by decide), pc_none]
  rfl
theorem cb_sub (t u : T) : cb (nd 5 [t, u]) true = cb t true + ct u := by
  unfold cb
  rw [body_sub, pc_app, pc_none, pc_sg (by decide), pc_none]
  rfl
theorem cb_mul (m : List Nat) (t : T) : cb (.node 6 ⟨#[]⟩ [] false m [t]) true = ct t := by
  unfold cb
  rw [body_mul, pc_word _ _ _ (.inl (by decide)), pc_none, pc_sg (by decide), pc_none]
  rfl
theorem sign_in {l : List Wd} (h : sign l ≠ 0) : 9 ≤ sign l ∧ sign l ≤ 14 := by
  unfold sign at h ⊢
  repeat' split
  all_goals first | omega | simp_all
def LB (l : List Wd) (t : T) (r : List Wd) : NT → Prop
  | .form => wc r + cw 1 (nl r) t ≤ wc l ∧ cl r = 0
  | .formL t0 => cl l ≤ 1 → wc r + cw 1 (nl r) t ≤ wc l + cw 1 (nl l) t0 ∧ cl r = 0
  | .impl => wc r + cw 2 (nl r) t ≤ wc l ∧ cl r ≤ 1
  | .ored => wc r + cw 3 (nl r) t ≤ wc l ∧ cl r ≤ 2
  | .orL ks => ks ≠ [] → (2 ≤ ks.length ∨ isW ⟨#[111, 114]⟩ l = true) → cl l ≤ 3 → wc r + cb t (nl r) ≤ wc l + acc 4 (nl l) ks ∧ t.k = 18 ∧ cl r ≤ 2
  | .anded => wc r + cw 4 (nl r) t ≤ wc l ∧ cl r ≤ 3
  | .andL ks => ks ≠ [] → (2 ≤ ks.length ∨ isW ⟨#[97, 110, 100]⟩ l = true) → wc r + cb t (nl r) ≤ wc l + acc 5 (nl l) ks ∧ t.k = 17 ∧ cl r ≤ 3
  | .notted => wc r + cw 5 (nl r) t ≤ wc l
  | .prim => wc r + cw 6 (nl r) t ≤ wc l
  | .sum => wc r + cb t true ≤ wc l
  | .sumL t0 => wc r + cb t true ≤ wc l + cb t0 true
  | .oper => wc r + ct t ≤ wc l
theorem lv {k : Int} {n : Nat} {b : Bool} (h : n ≤ level k) (hb : binds k = false) : ¬ (level k < n ∨ (binds k = true ∧ b = false)) := fun h2 => by
  rcases h2 with h2 | h2
  · omega
  · rw [hb] at h2
    exact absurd h2.1 (by decide)
theorem lvt {k : Int} {n : Nat} (h : n ≤ level k) : ¬ (level k < n ∨ (binds k = true ∧ true = false)) := fun h2 => by
  rcases h2 with h2 | h2
  · omega
  · exact absurd h2.2 (by decide)
theorem lv6 {k : Int} (hk : 9 ≤ k ∧ k ≤ 14) : level k = 6 ∧ binds k = false := by
  have : k = 9 ∨ k = 10 ∨ k = 11 ∨ k = 12 ∨ k = 13 ∨ k = 14 := by omega
  rcases this with rfl | rfl | rfl | rfl | rfl | rfl <;> decide
theorem least (e : Nat) : ∀ (f : Nat) (nt : NT) (l : List Wd) (t : T) (r : List Wd), G e f nt l = .ok t r → LB l t r nt
  | 0, _, _, _, _, h => by cases h
  | f + 1, nt, l, t, r, h => by
    have ih := least e f
    have hwt := wc_tail l
    rw [G_succ] at h
    cases nt with
    | form =>
      obtain ⟨u, s, h1, h2⟩ := Rd.bind_ok h
      have a : wc s + cw 2 (nl s) u ≤ wc l ∧ cl s ≤ 1 := ih _ _ _ _ h1
      have b : cl s ≤ 1 → wc r + cw 1 (nl r) t ≤ wc s + cw 1 (nl s) u ∧ cl r = 0 := ih _ _ _ _ h2
      have c := cw_up u (show 1 ≤ 2 by omega) (nl s)
      have b := b a.2
      exact ⟨by omega, b.2⟩
    | formL t0 =>
      intro hc
      unfold step at h
      dsimp only at h
      split at h
      · rename_i hw
        obtain ⟨u, s, h1, h2⟩ := Rd.bind_ok h
        have a : wc s + cw 2 (nl s) u ≤ wc l.tail ∧ cl s ≤ 1 := ih _ _ _ _ h1
        have b : cl s ≤ 1 → wc r + cw 1 (nl r) t ≤ wc s + cw 1 (nl s) (nd 20 [t0, u]) ∧ cl r = 0 := ih _ _ _ _ h2
        have b := b a.2
        have q : cw 1 (nl s) (nd 20 [t0, u]) = cb (nd 20 [t0, u]) (nl s) := cw_body (lv (k := 20) (by decide) rfl)
        rw [q, cb_iff] at b
        rw [nl_no (cl_of (.inr (.inr (.inr hw))))]
        exact ⟨by omega, b.2⟩
      · rename_i hw
        injection h with h1 h2
        subst h1 h2
        exact ⟨Nat.le_refl _, by have := cl_lt (n := 0) hc (.inr (.inr (.inr ⟨rfl, hw⟩))); omega⟩
    | impl =>
      obtain ⟨u, s, h1, h2⟩ := Rd.bind_ok h
      have a : wc s + cw 3 (nl s) u ≤ wc l ∧ cl s ≤ 2 := ih _ _ _ _ h1
      split at h2
      · rename_i hw
        obtain ⟨v, s2, h3, h4⟩ := Rd.bind_ok h2
        have b : wc s2 + cw 2 (nl s2) v ≤ wc s.tail ∧ cl s2 ≤ 1 := ih _ _ _ _ h3
        have := wc_tail s
        injection h4 with h5 h6
        subst h5 h6
        rw [nl_no (cl_of (.inr (.inr (.inl hw))))] at a
        have q : cw 2 (nl s2) (nd 19 [u, v]) = cb (nd 19 [u, v]) (nl s2) := cw_body (lv (k := 19) (by decide) rfl)
        refine ⟨?_, b.2⟩
        rw [q, cb_imp]
        omega
      · rename_i hw
        injection h2 with h5 h6
        subst h5 h6
        have c := cw_up u (show 2 ≤ 3 by omega) (nl s)
        exact ⟨by omega, cl_lt a.2 (.inr (.inr (.inl ⟨rfl, hw⟩)))⟩
    | ored =>
      obtain ⟨u, s, h1, h2⟩ := Rd.bind_ok h
      have a : wc s + cw 4 (nl s) u ≤ wc l ∧ cl s ≤ 3 := ih _ _ _ _ h1
      split at h2
      · rename_i hw
        have b : [u] ≠ [] → (2 ≤ [u].length ∨ _) → cl s ≤ 3 → wc r + cb t (nl r) ≤ wc s + acc 4 (nl s) [u] ∧ t.k = 18 ∧ cl r ≤ 2 := ih _ _ _ _ h2
        have b := b (by simp) (.inr hw) a.2
        have q : cw 3 (nl r) t = cb t (nl r) := cw_body (by rw [b.2.1]; exact lv (k := 18) (by decide) rfl)
        have e1 : acc 4 (nl s) [u] = cw 4 (nl s) u := rfl
        refine ⟨?_, b.2.2⟩
        rw [q]
        omega
      · rename_i hw
        injection h2 with h5 h6
        subst h5 h6
        have c := cw_up u (show 3 ≤ 4 by omega) (nl s)
        exact ⟨by omega, cl_lt (n := 2) a.2 (.inr (.inl ⟨rfl, hw⟩))⟩
    | orL ks =>
      intro hks h2l hc
      unfold step at h
      dsimp only at h
      split at h
      · rename_i hw
        obtain ⟨u, s, h1, h2⟩ := Rd.bind_ok h
        have a : wc s + cw 4 (nl s) u ≤ wc l.tail ∧ cl s ≤ 3 := ih _ _ _ _ h1
        have b : ks ++ [u] ≠ [] → (2 ≤ (ks ++ [u]).length ∨ _) → cl s ≤ 3 → wc r + cb t (nl r) ≤ wc s + acc 4 (nl s) (ks ++ [u]) ∧ t.k = 18 ∧ cl r ≤ 2 := ih _ _ _ _ h2
        have hl1 : 2 ≤ (ks ++ [u]).length := by
          have := List.length_pos_iff.2 hks
          simp
          omega
        have b := b (by simp) (.inl hl1) a.2
        rw [acc_snoc _ _ _ _ hks] at b
        rw [nl_no (cl_of (.inr (.inl hw)))]
        exact ⟨by omega, b.2⟩
      · rename_i hw
        injection h with h1 h2
        subst h1 h2
        have hl2 : 2 ≤ ks.length := h2l.elim id (fun h => absurd h hw)
        rw [cb_or _ hl2]
        exact ⟨Nat.le_refl _, rfl, cl_lt (n := 2) hc (.inr (.inl ⟨rfl, hw⟩))⟩
    | anded =>
      obtain ⟨u, s, h1, h2⟩ := Rd.bind_ok h
      have a : wc s + cw 5 (nl s) u ≤ wc l := ih _ _ _ _ h1
      split at h2
      · rename_i hw
        have b : [u] ≠ [] → (2 ≤ [u].length ∨ _) →  wc r + cb t (nl r) ≤ wc s + acc 5 (nl s) [u] ∧ t.k = 17 ∧ cl r ≤ 3 := ih _ _ _ _ h2
        have b := b (by simp) (.inr hw)
        have q : cw 4 (nl r) t = cb t (nl r) := cw_body (by rw [b.2.1]; exact lv (k := 17) (by decide) rfl)
        have e1 : acc 5 (nl s) [u] = cw 5 (nl s) u := rfl
        refine ⟨?_, b.2.2⟩
        rw [q]
        omega
      · rename_i hw
        injection h2 with h5 h6
        subst h5 h6
        have c := cw_up u (show 4 ≤ 5 by omega) (nl s)
        exact ⟨by omega, cl_lt (n := 3) (cl4 _) (.inl ⟨rfl, hw⟩)⟩
    | andL ks =>
      intro hks h2l
      unfold step at h
      dsimp only at h
      split at h
      · rename_i hw
        obtain ⟨u, s, h1, h2⟩ := Rd.bind_ok h
        have a : wc s + cw 5 (nl s) u ≤ wc l.tail := ih _ _ _ _ h1
        have b : ks ++ [u] ≠ [] → (2 ≤ (ks ++ [u]).length ∨ _) →  wc r + cb t (nl r) ≤ wc s + acc 5 (nl s) (ks ++ [u]) ∧ t.k = 17 ∧ cl r ≤ 3 := ih _ _ _ _ h2
        have hl1 : 2 ≤ (ks ++ [u]).length := by
          have := List.length_pos_iff.2 hks
          simp
          omega
        have b := b (by simp) (.inl hl1)
        rw [acc_snoc _ _ _ _ hks] at b
        rw [nl_no (cl_of (.inl hw))]
        exact ⟨by omega, b.2⟩
      · rename_i hw
        injection h with h1 h2
        subst h1 h2
        have hl2 : 2 ≤ ks.length := h2l.elim id (fun h => absurd h hw)
        rw [cb_and _ hl2]
        exact ⟨Nat.le_refl _, rfl, cl_lt (n := 3) (cl4 _) (.inl ⟨rfl, hw⟩)⟩
    | notted =>
      have hbd : ∀ k : Int, (k = 21 ∨ k = 22) → bound e (G e f) k l.tail = .ok t r → wc r + cw 5 (nl r) t ≤ wc l := fun k hk hb => by
        unfold bound at hb
        split at hb
        · exact (wrong_ok hb).elim
        · obtain ⟨u, s, h1, h2⟩ := Rd.bind_ok hb
          have a : wc s + cw 1 (nl s) u ≤ wc (beh l.tail).tail ∧ cl s = 0 := ih _ _ _ _ h1
          have b1 := wc_tail (beh l.tail)
          have b2 := wc_beh l.tail
          injection h2 with h3 h4
          subst h3 h4
          have hn := nl_yes a.2
          rw [hn] at a ⊢
          rcases hk with rfl | rfl
          · rw [cw_body (lvt (k := 21) (by decide)), cb_some]
            omega
          · rw [cw_body (lvt (k := 22) (by decide)), cb_all]
            omega
      unfold step at h
      dsimp only at h
      show wc r + cw 5 (nl r) t ≤ wc l
      split at h
      · obtain ⟨u, s, h1, h2⟩ := Rd.bind_ok h
        have a : wc s + cw 5 (nl s) u ≤ wc l.tail := ih _ _ _ _ h1
        injection h2 with h3 h4
        subst h3 h4
        have q : cw 5 (nl s) (nd 16 [u]) = cb (nd 16 [u]) (nl s) := cw_body (lv (k := 16) (by decide) rfl)
        rw [q, cb_not]
        omega
      split at h
      · exact hbd 21 (.inl rfl) h
      split at h
      · exact hbd 22 (.inr rfl) h
      · have a : wc r + cw 6 (nl r) t ≤ wc l := ih _ _ _ _ h
        have c := cw_up t (show 5 ≤ 6 by omega) (nl r)
        omega
    | prim =>
      unfold step at h
      dsimp only at h
      show wc r + cw 6 (nl r) t ≤ wc l
      split at h
      · injection h with h1 h2
        subst h1 h2
        rw [cw_body (lv (k := 7) (by decide) rfl)]
        exact hwt
      split at h
      · injection h with h1 h2
        subst h1 h2
        rw [cw_body (lv (k := 8) (by decide) rfl)]
        exact hwt
      split at h
      · rename_i hw
        obtain ⟨u, s, h1, h2⟩ := Rd.bind_ok h
        have a : wc s + cw 1 (nl s) u ≤ wc l.tail ∧ cl s = 0 := ih _ _ _ _ h1
        have b := wc_tail s
        have c := wc_par hw
        split at h2
        · injection h2 with h3 h4
          subst h3 h4
          rw [nl_yes a.2, cw_one] at a
          have d := cw_par u 6 (nl s.tail)
          omega
        · exact (wrong_ok h2).elim
      split at h
      · split at h
        · cases h
        · obtain ⟨u, s, h1, h2⟩ := Rd.bind_ok h
          have a : wc s + cb u true ≤ wc l.tail.tail := ih _ _ _ _ h1
          have b := wc_tail l.tail
          injection h2 with h3 h4
          subst h3 h4
          rw [cw_body (lv (k := 15) (by decide) rfl), cb_div]
          omega
      · obtain ⟨u, s, h1, h2⟩ := Rd.bind_ok h
        have a : wc s + cb u true ≤ wc l := ih _ _ _ _ h1
        have b := wc_tail s
        split at h2
        · exact (wrong_ok h2).elim
        · rename_i hz
          obtain ⟨v, s2, h3, h4⟩ := Rd.bind_ok h2
          have c : wc s2 + cb v true ≤ wc s.tail := ih _ _ _ _ h3
          have hs := sign_in hz
          injection h4 with h5 h6
          subst h5 h6
          have q : cw 6 (nl s2) (nd (sign s) [u, v]) = cb (nd (sign s) [u, v]) (nl s2) := cw_body (lv (k := sign s) (by rw [(lv6 hs).1]; exact Nat.le_refl _) (lv6 hs).2)
          rw [q, cb_cmp _ hs]
          omega
    | sum =>
      obtain ⟨u, s, h1, h2⟩ := Rd.bind_ok h
      have a : wc s + ct u ≤ wc l := ih _ _ _ _ h1
      have b : wc r + cb t true ≤ wc s + cb u true := ih _ _ _ _ h2
      have c := cb_ct u
      show wc r + cb t true ≤ wc l
      omega
    | sumL t0 =>
      unfold step at h
      dsimp only at h
      show wc r + cb t true ≤ wc l + cb t0 true
      split at h
      · obtain ⟨u, s, h1, h2⟩ := Rd.bind_ok h
        have a : wc s + ct u ≤ wc l.tail := ih _ _ _ _ h1
        have b : wc r + cb t true ≤ wc s + cb (nd 5 [t0, u]) true := ih _ _ _ _ h2
        rw [cb_sub] at b
        omega
      split at h
      · obtain ⟨u, s, h1, h2⟩ := Rd.bind_ok h
        have a : wc s + ct u ≤ wc l.tail := ih _ _ _ _ h1
        have b : wc r + cb t true ≤ wc s + cb (nd 4 [t0, u]) true := ih _ _ _ _ h2
        rw [cb_add] at b
        omega
      · injection h with h1 h2
        subst h1 h2
        exact Nat.le_refl _
    | oper =>
      unfold step at h
      dsimp only at h
      show wc r + ct t ≤ wc l
      split at h
      · obtain ⟨u, s, h1, h2⟩ := Rd.bind_ok h
        have a : wc s + ct u ≤ wc l.tail := ih _ _ _ _ h1
        injection h2 with h3 h4
        subst h3 h4
        rw [ct_eq (t := nd 3 [u]) (by show ¬ ((3 : Int) = 4 ∨ (3 : Int) = 5); decide), cb_neg]
        omega
      split at h
      · rename_i hw
        obtain ⟨u, s, h1, h2⟩ := Rd.bind_ok h
        have a : wc s + cb u true ≤ wc l.tail := ih _ _ _ _ h1
        have b := wc_tail s
        have c := wc_par hw
        have d := ct_le u
        split at h2
        · injection h2 with h3 h4
          subst h3 h4
          omega
        · exact (wrong_ok h2).elim
      split at h
      · injection h with h1 h2
        subst h1 h2
        exact hwt
      split at h
      · split at h
        · obtain ⟨u, s, h1, h2⟩ := Rd.bind_ok h
          have a : wc s + ct u ≤ wc l.tail.tail := ih _ _ _ _ h1
          have b := wc_tail l.tail
          injection h2 with h3 h4
          subst h3 h4
          rw [ct_eq (t := .node 6 ⟨#[]⟩ [] false (mg l) [u]) (by show ¬ ((6 : Int) = 4 ∨ (6 : Int) = 5); decide), cb_mul]
          omega
        · injection h with h1 h2
          subst h1 h2
          exact hwt
      · exact (wrong_ok h).elim
end P
end Go.Proofs.YthiadenmljbdaaaGreatDoor
end
section
namespace Go.Proofs.YthiadenmljbdaaaGreatDoor
namespace P
abbrev Ky := Nat × ByteArray × List Nat
def Cl (c : List Ky) : Prop := c = [] ∨ ∃ r, c = (4, ⟨#[41]⟩, []) :: r
def Sim (c : List Ky) (l l' : List Wd) : Prop := keys l' = keys l ++ c
section
variable {c : List Ky} {l l' : List Wd}
theorem Sim.nil (h : Sim c [] l') : keys l' = c := h
theorem Sim.cons {w : Wd} {l : List Wd} (h : Sim c (w :: l) l') : ∃ p y, l' = (w.1, w.2.1, w.2.2.1, p) :: y ∧ Sim c l y := by
  have h1 : keys l' = (w.1, w.2.1, w.2.2.1) :: (keys l ++ c) := h
  obtain ⟨p, y, h2, h3⟩ := keys_cons h1
  exact ⟨p, y, h2, h3⟩
theorem Sim.end_ (hc : Cl c) (h : Sim c [] l') : l' = [] ∨ ∃ p y, l' = (4, ⟨#[41]⟩, [], p) :: y := by
  rcases hc with rfl | ⟨r, rfl⟩
  · exact .inl (keys_nil h.nil)
  · obtain ⟨p, y, h1, _⟩ := keys_cons h.nil
    exact .inr ⟨p, y, h1⟩
theorem Sim.isW (hc : Cl c) (h : Sim c l l') {s : ByteArray} (hs : decide ((⟨#[41]⟩ : ByteArray) = s) = false) : isW s l' = isW s l := by
  cases l with
  | nil =>
    rcases h.end_ hc with rfl | ⟨p, y, rfl⟩
    · rfl
    · exact hs
  | cons w l =>
    obtain ⟨p, y, rfl, _⟩ := h.cons
    rfl
theorem Sim.no (hc : Cl c) (h : Sim c l l') {s : ByteArray} (hs : decide ((⟨#[41]⟩ : ByteArray) = s) = false) (hw : ¬ P.isW s l = true) : P.isW s l' = false := by
  rw [h.isW hc hs]
  exact Bool.eq_false_iff.2 hw
theorem Sim.tail (h : Sim c l l') (hl : l ≠ []) : Sim c l.tail l'.tail := by
  cases l with
  | nil => exact absurd rfl hl
  | cons w l =>
    obtain ⟨p, y, rfl, hy⟩ := h.cons
    exact hy
theorem Sim.kd (h : Sim c l l') (hl : l ≠ []) : kd l' = kd l := by
  cases l with
  | nil => exact absurd rfl hl
  | cons w l =>
    obtain ⟨p, y, rfl, _⟩ := h.cons
    rfl
theorem Sim.mg (h : Sim c l l') (hl : l ≠ []) : mg l' = mg l := by
  cases l with
  | nil => exact absurd rfl hl
  | cons w l =>
    obtain ⟨p, y, rfl, _⟩ := h.cons
    rfl
theorem Sim.tx (h : Sim c l l') (hl : l ≠ []) : tx l' = tx l := by
  cases l with
  | nil => exact absurd rfl hl
  | cons w l =>
    obtain ⟨p, y, rfl, _⟩ := h.cons
    rfl
theorem Sim.sign (hc : Cl c) (h : Sim c l l') : sign l' = sign l := by
  unfold P.sign
  rw [h.isW hc rfl, h.isW hc rfl, h.isW hc rfl, h.isW hc rfl, h.isW hc rfl, h.isW hc rfl]
end
theorem not_true {b : Bool} (h : ¬ b = true) : b = false := Bool.eq_false_iff.2 h
theorem rds_of_read {e : Nat} {l : List Wd} {t : T} (h : read e l = .ok t []) : G e (fuel l) .form l = .ok t [] := by
  unfold read at h
  generalize G e (fuel l) .form l = X at h
  cases X with
  | out => cases h
  | bad c p => cases h
  | ok u s =>
    cases s with
    | nil => exact h
    | cons w s => exact (wrong_ok (e := e) (l := w :: s) h).elim
end P
end Go.Proofs.YthiadenmljbdaaaGreatDoor
end

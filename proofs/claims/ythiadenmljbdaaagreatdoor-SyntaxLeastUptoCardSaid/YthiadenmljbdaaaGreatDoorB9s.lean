/-
  s: the parts PGram YDepth YSize YNone of the proof.
-/
import Derived.Test.YthiadenmljbdaaaGreatDoorB7s
import Derived.Deep.LoopGhost
import Derived.Deep.Cut
section
namespace Go.Proofs.YthiadenmljbdaaaGreatDoor
namespace P
inductive Rd where
  | out
  | bad (c p : Nat)
  | ok (t : T) (r : List Wd)
def Rd.bind : Rd → (T → List Wd → Rd) → Rd
  | .out, _ => .out
  | .bad c p, _ => .bad c p
  | .ok t r, k => k t r
def isW (s : ByteArray) : List Wd → Bool
  | [] => false
  | t :: _ => decide (t.2.1 = s)
def kd : List Wd → Nat
  | [] => 0
  | t :: _ => t.1
def mg : List Wd → List Nat
  | [] => []
  | t :: _ => t.2.2.1
def tx : List Wd → ByteArray
  | [] => ⟨#[]⟩
  | t :: _ => t.2.1
def pl : List Wd → Nat
  | [] => 0
  | t :: _ => t.2.2.2
def wrong (e : Nat) : List Wd → Rd
  | [] => .bad 42 e
  | t :: _ => .bad 41 t.2.2.2
def nd (k : Int) (ks : List T) : T := .node k ⟨#[]⟩ [] false [] ks
def nms (l : List Wd) : List ByteArray := (l.takeWhile (fun t => t.1 == 2)).map (·.2.1)
def beh (l : List Wd) : List Wd := l.dropWhile (fun t => t.1 == 2)
def sign (l : List Wd) : Int := if isW ⟨#[60]⟩ l then 9 else if isW ⟨#[60, 61]⟩ l then 10 else if isW ⟨#[61]⟩ l then 11 else if isW ⟨#[33, 61]⟩ l then 12 else if isW ⟨#[62, 61]⟩ l then 13 else if isW ⟨#[62]⟩ l then 14 else 0
inductive NT where
  | form | formL (t : T) | impl | ored | orL (ks : List T) | anded | andL (ks : List T) | notted | prim | sum | sumL (t : T) | oper
def bound (e : Nat) (rec : NT → List Wd → Rd) (k : Int) (l : List Wd) : Rd :=
  if (nms l).isEmpty || !isW ⟨#[46]⟩ (beh l) then wrong e (beh l) else (rec .form (beh l).tail).bind fun u r => .ok (.node k ⟨#[]⟩ (nms l) false [] [u]) r
def step (e : Nat) (rec : NT → List Wd → Rd) (nt : NT) (l : List Wd) : Rd :=
  match nt with
  | .form => (rec .impl l).bind fun t r => rec (.formL t) r
  | .formL t => if isW ⟨#[105, 102, 102]⟩ l then (rec .impl l.tail).bind fun u r => rec (.formL (nd 20 [t, u])) r else .ok t l
  | .impl => (rec .ored l).bind fun t r => if isW ⟨#[105, 109, 112, 108, 105, 101, 115]⟩ r then (rec .impl r.tail).bind fun u r' => .ok (nd 19 [t, u]) r' else .ok t r
  | .ored => (rec .anded l).bind fun t r => if isW ⟨#[111, 114]⟩ r then rec (.orL [t]) r else .ok t r
  | .orL ks => if isW ⟨#[111, 114]⟩ l then (rec .anded l.tail).bind fun u r => rec (.orL (ks ++ [u])) r else .ok (nd 18 ks) l
  | .anded => (rec .notted l).bind fun t r => if isW ⟨#[97, 110, 100]⟩ r then rec (.andL [t]) r else .ok t r
  | .andL ks => if isW ⟨#[97, 110, 100]⟩ l then (rec .notted l.tail).bind fun u r => rec (.andL (ks ++ [u])) r else .ok (nd 17 ks) l
  | .notted => if isW ⟨#[110, 111, 116]⟩ l then (rec .notted l.tail).bind fun u r => .ok (nd 16 [u]) r
      else if isW ⟨#[115, 111, 109, 101]⟩ l then bound e rec 21 l.tail
      else if isW ⟨#[97, 108, 108]⟩ l then bound e rec 22 l.tail
      else rec .prim l
  | .prim => if isW ⟨#[116, 114, 117, 101]⟩ l then .ok (nd 7 []) l.tail
      else if isW ⟨#[102, 97, 108, 115, 101]⟩ l then .ok (nd 8 []) l.tail
      else if isW ⟨#[40]⟩ l then (rec .form l.tail).bind fun u r => if isW ⟨#[41]⟩ r then .ok u r.tail else wrong e r
      else if kd l == 1 && isW ⟨#[100, 105, 118, 105, 100, 101, 115]⟩ l.tail then
        (if (mg l).isEmpty then .bad 11 (pl l) else (rec .sum l.tail.tail).bind fun u r => .ok (.node 15 ⟨#[]⟩ [] false (mg l) [u]) r)
      else (rec .sum l).bind fun t r => if sign r = 0 then wrong e r else (rec .sum r.tail).bind fun u r' => .ok (nd (sign r) [t, u]) r'
  | .sum => (rec .oper l).bind fun t r => rec (.sumL t) r
  | .sumL t => if isW ⟨#[45]⟩ l then (rec .oper l.tail).bind fun u r => rec (.sumL (nd 5 [t, u])) r
      else if isW ⟨#[43]⟩ l then (rec .oper l.tail).bind fun u r => rec (.sumL (nd 4 [t, u])) r
      else .ok t l
  | .oper => if isW ⟨#[45]⟩ l then (rec .oper l.tail).bind fun u r => .ok (nd 3 [u]) r
      else if isW ⟨#[40]⟩ l then (rec .sum l.tail).bind fun u r => if isW ⟨#[41]⟩ r then .ok u r.tail else wrong e r
      else if kd l = 2 then .ok (.node 2 (tx l) [] false [] []) l.tail
      else if kd l = 1 then
        (if isW ⟨#[42]⟩ l.tail then (rec .oper l.tail.tail).bind fun u r => .ok (.node 6 ⟨#[]⟩ [] false (mg l) [u]) r else .ok (.node 1 ⟨#[]⟩ [] false (mg l) []) l.tail)
      else wrong e l
def G (e : Nat) : Nat → NT → List Wd → Rd
  | 0 => fun _ _ => .out
  | f + 1 => step e (G e f)
theorem G_succ (e f : Nat) : G e (f + 1) = step e (G e f) := rfl
theorem Rd.bind_ok {x : Rd} {k : T → List Wd → Rd} {t : T} {r : List Wd} (h : x.bind k = .ok t r) : ∃ u s, x = .ok u s ∧ k u s = .ok t r := by
  cases x with
  | out => cases h
  | bad c p => cases h
  | ok u s => exact ⟨u, s, rfl, h⟩
theorem Rd.bind_bad {x : Rd} {k : T → List Wd → Rd} {c p : Nat} (h : x.bind k = .bad c p) : x = .bad c p ∨ ∃ u s, x = .ok u s ∧ k u s = .bad c p := by
  cases x with
  | out => cases h
  | bad c' p' => exact .inl h
  | ok u s => exact .inr ⟨u, s, rfl, h⟩
theorem wrong_ok {e : Nat} {l : List Wd} {t : T} {r : List Wd} (h : wrong e l = .ok t r) : False := by cases l <;> cases h
theorem wrong_out {e : Nat} {l : List Wd} (h : wrong e l = .out) : False := by cases l <;> cases h
theorem isW_cons {s : ByteArray} {l : List Wd} (h : isW s l = true) : ∃ t r, l = t :: r ∧ t.2.1 = s := by
  cases l with
  | nil => cases h
  | cons t r => exact ⟨t, r, rfl, of_decide_eq_true h⟩
theorem kd_cons {l : List Wd} {k : Nat} (h : kd l = k) (hk : k ≠ 0) : ∃ t r, l = t :: r ∧ t.1 = k := by
  cases l with
  | nil => exact absurd h.symm hk
  | cons t r => exact ⟨t, r, rfl, h⟩
def Le (x y : Rd) : Prop := x = .out ∨ x = y
theorem Le.refl (x : Rd) : Le x x := .inr rfl
theorem Le.bind {x y : Rd} {k k' : T → List Wd → Rd} (h : Le x y) (hk : ∀ t r, Le (k t r) (k' t r)) : Le (x.bind k) (y.bind k') := by
  rcases h with rfl | rfl
  · exact .inl rfl
  · cases x with
    | out => exact .inl rfl
    | bad c p => exact .inr rfl
    | ok t r => exact hk t r
theorem Le.ite {c : Prop} [Decidable c] {x y x' y' : Rd} (h : Le x y) (h' : Le x' y') : Le (if c then x else x') (if c then y else y') := by
  split
  · exact h
  · exact h'
theorem bound_le {e : Nat} {rec rec' : NT → List Wd → Rd} (h : ∀ nt l, Le (rec nt l) (rec' nt l)) (k : Int) (l : List Wd) : Le (bound e rec k l) (bound e rec' k l) :=
  Le.ite (.refl _) (Le.bind (h _ _) (fun _ _ => .refl _))
theorem step_le {e : Nat} {rec rec' : NT → List Wd → Rd} (h : ∀ nt l, Le (rec nt l) (rec' nt l)) (nt : NT) (l : List Wd) : Le (step e rec nt l) (step e rec' nt l) := by
  cases nt with
  | form => exact Le.bind (h _ _) (fun _ _ => h _ _)
  | formL t => exact Le.ite (Le.bind (h _ _) (fun _ _ => h _ _)) (.refl _)
  | impl => exact Le.bind (h _ _) (fun _ _ => Le.ite (Le.bind (h _ _) (fun _ _ => .refl _)) (.refl _))
  | ored => exact Le.bind (h _ _) (fun _ _ => Le.ite (h _ _) (.refl _))
  | orL ks => exact Le.ite (Le.bind (h _ _) (fun _ _ => h _ _)) (.refl _)
  | anded => exact Le.bind (h _ _) (fun _ _ => Le.ite (h _ _) (.refl _))
  | andL ks => exact Le.ite (Le.bind (h _ _) (fun _ _ => h _ _)) (.refl _)
  | notted => exact Le.ite (Le.bind (h _ _) (fun _ _ => .refl _)) (Le.ite (bound_le h _ _) (Le.ite (bound_le h _ _) (h _ _)))
  | prim => exact Le.ite (.refl _) (Le.ite (.refl _) (Le.ite (Le.bind (h _ _) (fun _ _ => .refl _)) (Le.ite (Le.ite (.refl _) (Le.bind (h _ _) (fun _ _ => .refl _))) (Le.bind (h _ _) (fun _ _ => Le.ite (.refl _) (Le.bind (h _ _) (fun _ _ => .refl _)))))))
  | sum => exact Le.bind (h _ _) (fun _ _ => h _ _)
  | sumL t => exact Le.ite (Le.bind (h _ _) (fun _ _ => h _ _)) (Le.ite (Le.bind (h _ _) (fun _ _ => h _ _)) (.refl _))
  | oper => exact Le.ite (Le.bind (h _ _) (fun _ _ => .refl _)) (Le.ite (Le.bind (h _ _) (fun _ _ => .refl _)) (Le.ite (.refl _) (Le.ite (Le.ite (Le.bind (h _ _) (fun _ _ => .refl _)) (.refl _)) (.refl _))))
theorem G_le (e : Nat) : ∀ (f : Nat) (nt : NT) (l : List Wd), Le (G e f nt l) (G e (f + 1) nt l)
  | 0, _, _ => .inl rfl
  | f + 1, nt, l => step_le (G_le e f) nt l
theorem G_more {e f f' : Nat} {nt : NT} {l : List Wd} (h : f ≤ f') : Le (G e f nt l) (G e f' nt l) := by
  induction f' with
  | zero => obtain rfl : f = 0 := by omega
            exact .refl _
  | succ f' ih =>
    by_cases hf : f = f' + 1
    · subst hf; exact .refl _
    · rcases ih (by omega) with h1 | h1
      · exact .inl h1
      · rw [h1]; exact G_le e f' nt l
theorem G_ok_more {e f f' : Nat} {nt : NT} {l : List Wd} {t : T} {r : List Wd} (h : G e f nt l = .ok t r) (hf : f ≤ f') : G e f' nt l = .ok t r := by
  rcases G_more (e := e) (nt := nt) (l := l) hf with h1 | h1
  · rw [h] at h1; cases h1
  · rw [← h1, h]
theorem G_one {e f f' : Nat} {nt : NT} {l : List Wd} (h : G e f nt l ≠ .out) (h' : G e f' nt l ≠ .out) : G e f nt l = G e f' nt l := by
  by_cases hf : f ≤ f'
  · exact (G_more hf).resolve_left h
  · exact ((G_more (show f' ≤ f by omega)).resolve_left h').symm
theorem beh_len (l : List Wd) : (beh l).length ≤ l.length := by
  unfold beh
  exact (List.dropWhile_sublist _).length_le
theorem beh_lt {l : List Wd} (h : (nms l).isEmpty = false) : (beh l).length < l.length := by
  cases l with
  | nil => cases h
  | cons t r =>
    unfold nms at h
    unfold beh
    by_cases ht : (t.1 == 2) = true
    · rw [List.dropWhile_cons_of_pos (p := fun t : Wd => t.1 == 2) ht]
      have := (List.dropWhile_sublist (l := r) (fun t : Wd => t.1 == 2)).length_le
      simp only [List.length_cons]
      omega
    · rw [List.takeWhile_cons, if_neg ht] at h
      cases h
def NT.loop : NT → Bool
  | .formL _ | .orL _ | .andL _ | .sumL _ => true
  | _ => false
theorem tail_len {l : List Wd} {t : Wd} {r : List Wd} (h : l = t :: r) : l.tail.length + 1 = l.length := by subst h; rfl
theorem tail_le (l : List Wd) : l.tail.length ≤ l.length := by cases l <;> simp
theorem G_len (e : Nat) : ∀ (f : Nat) (nt : NT) (l : List Wd) (t : T) (r : List Wd), G e f nt l = .ok t r → r.length ≤ l.length ∧ (nt.loop = false → r.length < l.length)
  | 0, _, _, _, _, h => by cases h
  | f + 1, nt, l, t, r, h => by
    have ih := G_len e f
    rw [G_succ] at h
    cases nt with
    | form =>
      obtain ⟨u, s, h1, h2⟩ := Rd.bind_ok h
      have a := (ih _ _ _ _ h1).2 rfl
      have b := (ih _ _ _ _ h2).1
      exact ⟨by omega, fun _ => by omega⟩
    | formL t0 =>
      unfold step at h
      dsimp only at h
      split at h
      · rename_i hw
        obtain ⟨w, q, hl, _⟩ := isW_cons hw
        have := tail_len hl
        obtain ⟨u, s, h1, h2⟩ := Rd.bind_ok h
        have a := (ih _ _ _ _ h1).2 rfl
        have b := (ih _ _ _ _ h2).1
        exact ⟨by omega, fun e => by cases e⟩
      · injection h with h1 h2
        subst h2
        exact ⟨Nat.le_refl _, fun e => by cases e⟩
    | impl =>
      obtain ⟨u, s, h1, h2⟩ := Rd.bind_ok h
      have a := (ih _ _ _ _ h1).2 rfl
      split at h2
      · have := tail_le s
        obtain ⟨u', s', h3, h4⟩ := Rd.bind_ok h2
        have b := (ih _ _ _ _ h3).2 rfl
        injection h4 with h5 h6
        subst h6
        exact ⟨by omega, fun _ => by omega⟩
      · injection h2 with h3 h4
        subst h4
        exact ⟨by omega, fun _ => by omega⟩
    | ored =>
      obtain ⟨u, s, h1, h2⟩ := Rd.bind_ok h
      have a := (ih _ _ _ _ h1).2 rfl
      split at h2
      · have b := (ih _ _ _ _ h2).1
        exact ⟨by omega, fun _ => by omega⟩
      · injection h2 with h3 h4
        subst h4
        exact ⟨by omega, fun _ => by omega⟩
    | orL ks =>
      unfold step at h
      dsimp only at h
      split at h
      · rename_i hw
        obtain ⟨w, q, hl, _⟩ := isW_cons hw
        have := tail_len hl
        obtain ⟨u, s, h1, h2⟩ := Rd.bind_ok h
        have a := (ih _ _ _ _ h1).2 rfl
        have b := (ih _ _ _ _ h2).1
        exact ⟨by omega, fun e => by cases e⟩
      · injection h with h1 h2
        subst h2
        exact ⟨Nat.le_refl _, fun e => by cases e⟩
    | anded =>
      obtain ⟨u, s, h1, h2⟩ := Rd.bind_ok h
      have a := (ih _ _ _ _ h1).2 rfl
      split at h2
      · have b := (ih _ _ _ _ h2).1
        exact ⟨by omega, fun _ => by omega⟩
      · injection h2 with h3 h4
        subst h4
        exact ⟨by omega, fun _ => by omega⟩
    | andL ks =>
      unfold step at h
      dsimp only at h
      split at h
      · rename_i hw
        obtain ⟨w, q, hl, _⟩ := isW_cons hw
        have := tail_len hl
        obtain ⟨u, s, h1, h2⟩ := Rd.bind_ok h
        have a := (ih _ _ _ _ h1).2 rfl
        have b := (ih _ _ _ _ h2).1
        exact ⟨by omega, fun e => by cases e⟩
      · injection h with h1 h2
        subst h2
        exact ⟨Nat.le_refl _, fun e => by cases e⟩
    | notted =>
      have hbd : ∀ k, bound e (G e f) k l.tail = .ok t r → r.length ≤ l.length ∧ r.length < l.length := fun k hk => by
        unfold bound at hk
        split at hk
        · exact (wrong_ok hk).elim
        · rename_i hc
          have hn : (nms l.tail).isEmpty = false := by
            cases hq : (nms l.tail).isEmpty
            · rfl
            · rw [hq] at hc; exact absurd rfl hc
          have h0 := beh_lt hn
          have h00 := tail_le l
          have h01 := tail_le (beh l.tail)
          obtain ⟨u, s, h1, h2⟩ := Rd.bind_ok hk
          have a := (ih _ _ _ _ h1).2 rfl
          injection h2 with h3 h4
          subst h4
          omega
      unfold step at h
      dsimp only at h
      split at h
      · have := tail_le l
        obtain ⟨u, s, h1, h2⟩ := Rd.bind_ok h
        have a := (ih _ _ _ _ h1).2 rfl
        injection h2 with h3 h4
        subst h4
        exact ⟨by omega, fun _ => by omega⟩
      · split at h
        · exact ⟨(hbd _ h).1, fun _ => (hbd _ h).2⟩
        · split at h
          · exact ⟨(hbd _ h).1, fun _ => (hbd _ h).2⟩
          · have a := (ih _ _ _ _ h).2 rfl
            exact ⟨by omega, fun _ => a⟩
    | prim =>
      unfold step at h
      dsimp only at h
      split at h
      · rename_i hw
        obtain ⟨w, q, hl, _⟩ := isW_cons hw
        have := tail_len hl
        injection h with h1 h2
        subst h2
        exact ⟨by omega, fun _ => by omega⟩
      split at h
      · rename_i hw
        obtain ⟨w, q, hl, _⟩ := isW_cons hw
        have := tail_len hl
        injection h with h1 h2
        subst h2
        exact ⟨by omega, fun _ => by omega⟩
      split at h
      · have h00 := tail_le l
        obtain ⟨u, s, h1, h2⟩ := Rd.bind_ok h
        have a := (ih _ _ _ _ h1).2 rfl
        have h01 := tail_le s
        split at h2
        · injection h2 with h3 h4
          subst h4
          exact ⟨by omega, fun _ => by omega⟩
        · exact (wrong_ok h2).elim
      split at h
      · split at h
        · cases h
        · have h00 := tail_le l
          have h01 := tail_le l.tail
          obtain ⟨u, s, h1, h2⟩ := Rd.bind_ok h
          have a := (ih _ _ _ _ h1).2 rfl
          injection h2 with h3 h4
          subst h4
          exact ⟨by omega, fun _ => by omega⟩
      · obtain ⟨u, s, h1, h2⟩ := Rd.bind_ok h
        have a := (ih _ _ _ _ h1).2 rfl
        split at h2
        · exact (wrong_ok h2).elim
        · have h01 := tail_le s
          obtain ⟨u', s', h3, h4⟩ := Rd.bind_ok h2
          have b := (ih _ _ _ _ h3).2 rfl
          injection h4 with h5 h6
          subst h6
          exact ⟨by omega, fun _ => by omega⟩
    | sum =>
      obtain ⟨u, s, h1, h2⟩ := Rd.bind_ok h
      have a := (ih _ _ _ _ h1).2 rfl
      have b := (ih _ _ _ _ h2).1
      exact ⟨by omega, fun _ => by omega⟩
    | sumL t0 =>
      unfold step at h
      dsimp only at h
      split at h
      · rename_i hw
        obtain ⟨w, q, hl, _⟩ := isW_cons hw
        have := tail_len hl
        obtain ⟨u, s, h1, h2⟩ := Rd.bind_ok h
        have a := (ih _ _ _ _ h1).2 rfl
        have b := (ih _ _ _ _ h2).1
        exact ⟨by omega, fun e => by cases e⟩
      · split at h
        · rename_i hw
          obtain ⟨w, q, hl, _⟩ := isW_cons hw
          have := tail_len hl
          obtain ⟨u, s, h1, h2⟩ := Rd.bind_ok h
          have a := (ih _ _ _ _ h1).2 rfl
          have b := (ih _ _ _ _ h2).1
          exact ⟨by omega, fun e => by cases e⟩
        · injection h with h1 h2
          subst h2
          exact ⟨Nat.le_refl _, fun e => by cases e⟩
    | oper =>
      unfold step at h
      dsimp only at h
      split at h
      · have h00 := tail_le l
        obtain ⟨u, s, h1, h2⟩ := Rd.bind_ok h
        have a := (ih _ _ _ _ h1).2 rfl
        injection h2 with h3 h4
        subst h4
        exact ⟨by omega, fun _ => by omega⟩
      split at h
      · have h00 := tail_le l
        obtain ⟨u, s, h1, h2⟩ := Rd.bind_ok h
        have a := (ih _ _ _ _ h1).2 rfl
        have h01 := tail_le s
        split at h2
        · injection h2 with h3 h4
          subst h4
          exact ⟨by omega, fun _ => by omega⟩
        · exact (wrong_ok h2).elim
      split at h
      · rename_i hk
        obtain ⟨w, q, hl, _⟩ := kd_cons hk (by decide)
        have := tail_len hl
        injection h with h1 h2
        subst h2
        exact ⟨by omega, fun _ => by omega⟩
      split at h
      · rename_i hk
        obtain ⟨w, q, hl, _⟩ := kd_cons hk (by decide)
        have := tail_len hl
        split at h
        · have h01 := tail_le l.tail
          obtain ⟨u, s, h1, h2⟩ := Rd.bind_ok h
          have a := (ih _ _ _ _ h1).2 rfl
          injection h2 with h3 h4
          subst h4
          exact ⟨by omega, fun _ => by omega⟩
        · injection h with h1 h2
          subst h2
          exact ⟨by omega, fun _ => by omega⟩
      · exact (wrong_ok h).elim
def NT.rank : NT → Nat
  | .form => 12 | .formL _ => 11 | .impl => 10 | .ored => 9 | .orL _ => 8 | .anded => 7 | .andL _ => 6 | .notted => 5 | .prim => 4 | .sum => 3 | .sumL _ => 2 | .oper => 1
theorem bind_out {x : Rd} {k : T → List Wd → Rd} (h : x.bind k = .out) : x = .out ∨ ∃ u s, x = .ok u s ∧ k u s = .out := by
  cases x with
  | out => exact .inl rfl
  | bad c p => cases h
  | ok u s => exact .inr ⟨u, s, rfl, h⟩
theorem G_total (e : Nat) : ∀ (f : Nat) (nt : NT) (l : List Wd), 13 * l.length + nt.rank < f → G e f nt l ≠ .out
  | 0, _, _, hf => by omega
  | f + 1, nt, l, hf => fun h => by
    have ih := G_total e f
    have len := G_len e f
    rw [G_succ] at h
    have h00 := tail_le l
    have h01 := tail_le l.tail
    cases nt with
    | form =>
      rcases bind_out h with h1 | ⟨u, s, h1, h2⟩
      · exact ih _ _ (by simp only [NT.rank] at hf ⊢; omega) h1
      · have a := (len _ _ _ _ h1).2 rfl
        exact ih _ _ (by simp only [NT.rank] at hf ⊢; omega) h2
    | formL t0 =>
      unfold step at h
      dsimp only at h
      split at h
      · rename_i hw
        obtain ⟨w, q, hl, _⟩ := isW_cons hw
        have := tail_len hl
        rcases bind_out h with h1 | ⟨u, s, h1, h2⟩
        · exact ih _ _ (by simp only [NT.rank] at hf ⊢; omega) h1
        · have a := (len _ _ _ _ h1).2 rfl
          exact ih _ _ (by simp only [NT.rank] at hf ⊢; omega) h2
      · cases h
    | impl =>
      rcases bind_out h with h1 | ⟨u, s, h1, h2⟩
      · exact ih _ _ (by simp only [NT.rank] at hf ⊢; omega) h1
      · have a := (len _ _ _ _ h1).2 rfl
        have h02 := tail_le s
        split at h2
        · rcases bind_out h2 with h3 | ⟨u', s', h3, h4⟩
          · exact ih _ _ (by simp only [NT.rank] at hf ⊢; omega) h3
          · cases h4
        · cases h2
    | ored =>
      rcases bind_out h with h1 | ⟨u, s, h1, h2⟩
      · exact ih _ _ (by simp only [NT.rank] at hf ⊢; omega) h1
      · have a := (len _ _ _ _ h1).2 rfl
        split at h2
        · exact ih _ _ (by simp only [NT.rank] at hf ⊢; omega) h2
        · cases h2
    | orL ks =>
      unfold step at h
      dsimp only at h
      split at h
      · rename_i hw
        obtain ⟨w, q, hl, _⟩ := isW_cons hw
        have := tail_len hl
        rcases bind_out h with h1 | ⟨u, s, h1, h2⟩
        · exact ih _ _ (by simp only [NT.rank] at hf ⊢; omega) h1
        · have a := (len _ _ _ _ h1).2 rfl
          exact ih _ _ (by simp only [NT.rank] at hf ⊢; omega) h2
      · cases h
    | anded =>
      rcases bind_out h with h1 | ⟨u, s, h1, h2⟩
      · exact ih _ _ (by simp only [NT.rank] at hf ⊢; omega) h1
      · have a := (len _ _ _ _ h1).2 rfl
        split at h2
        · exact ih _ _ (by simp only [NT.rank] at hf ⊢; omega) h2
        · cases h2
    | andL ks =>
      unfold step at h
      dsimp only at h
      split at h
      · rename_i hw
        obtain ⟨w, q, hl, _⟩ := isW_cons hw
        have := tail_len hl
        rcases bind_out h with h1 | ⟨u, s, h1, h2⟩
        · exact ih _ _ (by simp only [NT.rank] at hf ⊢; omega) h1
        · have a := (len _ _ _ _ h1).2 rfl
          exact ih _ _ (by simp only [NT.rank] at hf ⊢; omega) h2
      · cases h
    | notted =>
      have hbd : ∀ k, l ≠ [] → bound e (G e f) k l.tail = .out → False := fun k hl hk => by
        unfold bound at hk
        split at hk
        · exact wrong_out hk
        · have h0 := beh_len l.tail
          have h02 := tail_le (beh l.tail)
          have h03 : l.tail.length + 1 = l.length := by cases l with
            | nil => exact absurd rfl hl
            | cons a b => rfl
          rcases bind_out hk with h1 | ⟨u, s, h1, h2⟩
          · exact ih _ _ (by simp only [NT.rank] at hf ⊢; omega) h1
          · cases h2
      have hne : ∀ s, isW s l = true → l ≠ [] := fun s hs e => by subst e; cases hs
      unfold step at h
      dsimp only at h
      split at h
      · rename_i hw
        obtain ⟨w, q, hl, _⟩ := isW_cons hw
        have := tail_len hl
        rcases bind_out h with h1 | ⟨u, s, h1, h2⟩
        · exact ih _ _ (by simp only [NT.rank] at hf ⊢; omega) h1
        · cases h2
      split at h
      · rename_i hw
        exact hbd _ (hne _ hw) h
      split at h
      · rename_i hw
        exact hbd _ (hne _ hw) h
      · exact ih _ _ (by simp only [NT.rank] at hf ⊢; omega) h
    | prim =>
      unfold step at h
      dsimp only at h
      split at h
      · cases h
      split at h
      · cases h
      split at h
      · rename_i hw
        obtain ⟨w, q, hl, _⟩ := isW_cons hw
        have := tail_len hl
        rcases bind_out h with h1 | ⟨u, s, h1, h2⟩
        · exact ih _ _ (by simp only [NT.rank] at hf ⊢; omega) h1
        · split at h2
          · cases h2
          · exact wrong_out h2
      split at h
      · split at h
        · cases h
        · rcases bind_out h with h1 | ⟨u, s, h1, h2⟩
          · exact ih _ _ (by simp only [NT.rank] at hf ⊢; omega) h1
          · cases h2
      · rcases bind_out h with h1 | ⟨u, s, h1, h2⟩
        · exact ih _ _ (by simp only [NT.rank] at hf ⊢; omega) h1
        · have a := (len _ _ _ _ h1).2 rfl
          have h02 := tail_le s
          split at h2
          · exact wrong_out h2
          · rcases bind_out h2 with h3 | ⟨u', s', h3, h4⟩
            · exact ih _ _ (by simp only [NT.rank] at hf ⊢; omega) h3
            · cases h4
    | sum =>
      rcases bind_out h with h1 | ⟨u, s, h1, h2⟩
      · exact ih _ _ (by simp only [NT.rank] at hf ⊢; omega) h1
      · have a := (len _ _ _ _ h1).2 rfl
        exact ih _ _ (by simp only [NT.rank] at hf ⊢; omega) h2
    | sumL t0 =>
      unfold step at h
      dsimp only at h
      split at h
      · rename_i hw
        obtain ⟨w, q, hl, _⟩ := isW_cons hw
        have := tail_len hl
        rcases bind_out h with h1 | ⟨u, s, h1, h2⟩
        · exact ih _ _ (by simp only [NT.rank] at hf ⊢; omega) h1
        · have a := (len _ _ _ _ h1).2 rfl
          exact ih _ _ (by simp only [NT.rank] at hf ⊢; omega) h2
      split at h
      · rename_i hw
        obtain ⟨w, q, hl, _⟩ := isW_cons hw
        have := tail_len hl
        rcases bind_out h with h1 | ⟨u, s, h1, h2⟩
        · exact ih _ _ (by simp only [NT.rank] at hf ⊢; omega) h1
        · have a := (len _ _ _ _ h1).2 rfl
          exact ih _ _ (by simp only [NT.rank] at hf ⊢; omega) h2
      · cases h
    | oper =>
      unfold step at h
      dsimp only at h
      split at h
      · rename_i hw
        obtain ⟨w, q, hl, _⟩ := isW_cons hw
        have := tail_len hl
        rcases bind_out h with h1 | ⟨u, s, h1, h2⟩
        · exact ih _ _ (by simp only [NT.rank] at hf ⊢; omega) h1
        · cases h2
      split at h
      · rename_i hw
        obtain ⟨w, q, hl, _⟩ := isW_cons hw
        have := tail_len hl
        rcases bind_out h with h1 | ⟨u, s, h1, h2⟩
        · exact ih _ _ (by simp only [NT.rank] at hf ⊢; omega) h1
        · split at h2
          · cases h2
          · exact wrong_out h2
      split at h
      · cases h
      split at h
      · rename_i hk
        obtain ⟨w, q, hl, _⟩ := kd_cons hk (by decide)
        have := tail_len hl
        split at h
        · rcases bind_out h with h1 | ⟨u, s, h1, h2⟩
          · exact ih _ _ (by simp only [NT.rank] at hf ⊢; omega) h1
          · cases h2
        · cases h
      · exact wrong_out h
def fuel (l : List Wd) : Nat := 13 * l.length + 13
def read (e : Nat) (l : List Wd) : Rd := (G e (fuel l) .form l).bind fun t r => if r.isEmpty then .ok t [] else wrong e r
end P
end Go.Proofs.YthiadenmljbdaaaGreatDoor
end
section
namespace Go.Proofs.YthiadenmljbdaaaGreatDoor
open Go.RowKit
mutual
def T.depth : T → Nat
  | .node _ _ _ _ _ ks => T.depths ks + 1
def T.depths : List T → Nat
  | [] => 0
  | t :: r => max t.depth (T.depths r)
end
theorem T.depth_eq (t : T) : t.depth = T.depths t.ks + 1 := by cases t; simp [T.depth, T.ks]
theorem T.depths_snoc : ∀ (l : List T) (t : T), T.depths (l ++ [t]) = max (T.depths l) t.depth
  | [], t => by simp [T.depths]
  | u :: r, t => by simp [T.depths, T.depths_snoc r t, Nat.max_assoc]
mutual
theorem T.depth_le : ∀ (t : T), t.depth ≤ t.bulk
  | .node _ _ _ _ _ ks => by have := T.depths_le ks; simp only [T.depth, T.bulk]; omega
theorem T.depths_le : ∀ (l : List T), T.depths l ≤ T.bulks l
  | [] => by simp [T.depths]
  | t :: r => by have := T.depth_le t; have := T.depths_le r; simp only [T.depths, T.bulks]; omega
end
set_option maxRecDepth 100000 in
set_option maxHeartbeats 1600000 in
theorem depth_t : ∀ (N : Nat) (t : T) (w : World) (R : Nat → Prop) (v : Value), t.bulk ≤ N → N ≤ 1048576 → T.In w R t v →
    Calls Tryz.prog 40 #[v] w fun e w' => e = .returned (.int .i64 (t.depth : Nat)) ∧ Below w.heap.size w w'
  | 0, t, _, _, _, hN, _, _ => by have := T.bulk_pos t; omega
  | N + 1, t, w, R, v, hN, hN2, h => by
    have ih := depth_t N
    obtain ⟨A1, c1, A2, c2, A3, c3, rfl, _, _, hc3, hkids⟩ := h.open
    obtain ⟨n, hn⟩ : ∃ n, t.ks.length = n := ⟨_, rfl⟩
    have hlen := (T.len_le hN).2.2.2.2
    rw [hn] at hkids hc3 hlen ⊢
    have HN := Lib.hid hn
    have HK := Lib.hid hkids
    have HB := Lib.hid hN
    clear hn hkids hN h
    go_enter Tryz.func40, Tryz.ntmps40
    go_wp2_with fail
    go_loopg [3, 9] (n + 1) (fun gk v3 v9 wr => ∃ i : Nat, gk + i = n + 1 ∧ i ≤ n ∧ v9 = .int .i64 (i : Nat) ∧ v3 = .int .i64 (T.depths (t.ks.take i) : Nat) ∧ Below w.heap.size w wr)
    case atStart => exact ⟨0, by omega, Nat.zero_le _, rfl, rfl, below_alloc1 _ _⟩
    case round =>
      obtain ⟨i, hi, hin, rfl, rfl, hbw⟩ := hrel
      by_cases hlt : i < n
      · obtain ⟨b, o, rfl, hk⟩ := HK.out (by omega)
        have hkd := hk i hlt
        obtain ⟨u, hu⟩ : ∃ u, t.ks.getD i t0 = u := ⟨_, rfl⟩
        rw [hu] at hkd
        have hub : u.bulk ≤ N := by rw [← hu]; exact T.kid_bulk HB.out (by rw [HN.out]; exact hlt)
        have hud := T.depth_le u
        have HU := Lib.hid hu
        clear hk hu
        obtain ⟨B1, d1, B2, d2, B3, d3, h6, hin2⟩ := hkd.below hbw
        have hal := below_alloc1 wr (.cells #[.int .i64 u.k, .string u.nm, .slice B1 u.ns.length d1, .bool u.ng, .slice B2 u.mg.length d2, .slice B3 u.ks.length d3] 28)
        have HI := Lib.hid (hin2.below hal)
        have hbw2 := below_on hbw hal
        obtain ⟨e0, e1, e2, e3, e4, e5⟩ := h6
        have hi0 : (0 : Int) ≤ i := by omega
        have hi1 : (i : Int) < n := by omega
        have hnext : T.depths (t.ks.take (i + 1)) = max (T.depths (t.ks.take i)) u.depth := by rw [take_snoc _ t0 _ (by rw [HN.out]; exact hlt), T.depths_snoc, HU.out]
        have HX := Lib.hid hnext
        clear hin2 hal hnext
        go_wp2_with (go_at_call 40; refine (ih u _ R _ hub (by omega) HI.out).mono ?_; rintro e w2 ⟨rfl, hb2⟩; replace hbw2 := below_on hbw2 hb2)
        go_roundg (n - i)
        case measure => omega
        case rel => exact ⟨i + 1, by omega, by omega, by go_num, by rw [HX.out]; go_num, hbw2⟩
      · obtain rfl : i = n := by omega
        have htk : t.ks.take i = t.ks := by rw [← HN.out, List.take_length]
        rw [htk]
        have hdt := T.depth_le t
        rw [T.depth_eq] at hdt
        have hdd : T.depths t.ks ≤ 1048576 := by have := HB.out; omega
        clear htk
        go_wp2_with fail
        go_ret
        exact ⟨by rw [T.depth_eq]; go_num, hbw⟩
end Go.Proofs.YthiadenmljbdaaaGreatDoor
end
section
namespace Go.Proofs.YthiadenmljbdaaaGreatDoor
open Go.RowKit
mutual
def T.size : T → Nat
  | .node _ _ _ _ _ ks => T.sizes ks + 1
def T.sizes : List T → Nat
  | [] => 0
  | t :: r => t.size + T.sizes r
end
theorem T.size_eq (t : T) : t.size = T.sizes t.ks + 1 := by cases t; simp [T.size, T.ks]
theorem T.sizes_snoc : ∀ (l : List T) (t : T), T.sizes (l ++ [t]) = T.sizes l + t.size
  | [], t => by simp [T.sizes]
  | u :: r, t => by simp [T.sizes, T.sizes_snoc r t]; omega
theorem T.sizes_take : ∀ (l : List T) (i : Nat), T.sizes (l.take i) ≤ T.sizes l
  | [], i => by simp
  | t :: r, 0 => by simp [T.sizes]
  | t :: r, i + 1 => by have := T.sizes_take r i; simp [T.sizes]; omega
set_option maxRecDepth 100000 in
set_option maxHeartbeats 1600000 in
theorem size_t : ∀ (N : Nat) (t : T) (w : World) (R : Nat → Prop) (v : Value), t.bulk ≤ N → N ≤ 1048576 → T.In w R t v →
    Calls Tryz.prog 24 #[v] w fun e w' => e = .returned (.int .i64 ((min t.size 3001 : Nat))) ∧ Below w.heap.size w w'
  | 0, t, _, _, _, hN, _, _ => by have := T.bulk_pos t; omega
  | N + 1, t, w, R, v, hN, hN2, h => by
    have ih := size_t N
    obtain ⟨A1, c1, A2, c2, A3, c3, rfl, hnames, hmag, hc3, hkids⟩ := h.open
    obtain ⟨n, hn⟩ : ∃ n, t.ks.length = n := ⟨_, rfl⟩
    obtain ⟨hl1, hl2, hl3, hl4, hlen⟩ := T.len_le hN
    rw [hn] at hkids hc3 hlen ⊢
    have HN := Lib.hid hn
    have HK := Lib.hid hkids
    have HB := Lib.hid hN
    have HNM := Lib.hid hnames
    have HMG := Lib.hid hmag
    clear hn hkids hN h hnames hmag
    go_enter Tryz.func24, Tryz.ntmps24
    go_wp2_with fail
    go_loopg [3, 9] (n + 1) (fun gk v3 v9 wr => ∃ i s : Nat, gk + i = n + 1 ∧ i ≤ n ∧ v9 = .int .i64 (i : Nat) ∧ v3 = .int .i64 (s : Nat) ∧ s ≤ 6001 ∧ Hid (min s 3001 = min (T.sizes (t.ks.take i) + 1) 3001) ∧ Below w.heap.size w wr)
    case atStart => exact ⟨0, 1, by omega, Nat.zero_le _, rfl, rfl, by omega, Lib.hid (by simp [T.sizes]), below_alloc1 _ _⟩
    case round =>
      obtain ⟨i, s, hi, hin, rfl, rfl, hs, HS, hbw⟩ := hrel
      by_cases hlt : i < n
      · by_cases h3 : 3000 < s
        · obtain ⟨b, o, rfl, hk⟩ := HK.out (by omega)
          have hkd := hk i hlt
          obtain ⟨B1, d1, B2, d2, B3, d3, h6, _⟩ := hkd.below hbw
          clear hk hkd
          obtain ⟨u, hu⟩ : ∃ u, t.ks.getD i t0 = u := ⟨_, rfl⟩
          rw [hu] at h6
          clear hu
          obtain ⟨e0, e1, e2, e3, e4, e5⟩ := h6
          have hi0 : (0 : Int) ≤ i := by omega
          have hi1 : (i : Int) < n := by omega
          have q1 : decide ((s : Int) > 3000) = true := decide_eq_true (by omega)
          have q2 : decide (3000 < s) = true := decide_eq_true h3
          have hal := below_alloc1 wr (.cells #[.int .i64 u.k, .string u.nm, .slice B1 u.ns.length d1, .bool u.ng, .slice B2 u.mg.length d2, .slice B3 u.ks.length d3] 28)
          have hres : min t.size 3001 = min s 3001 := by
            have h1 := HS.out
            have h2 := T.sizes_take t.ks i
            rw [T.size_eq]
            omega
          have HR := Lib.hid hres
          have hbw2 := below_on hbw hal
          clear hres hal
          go_wp2_with fail
          go_ret
          exact ⟨by rw [HR.out]; go_num, hbw2⟩
        · obtain ⟨b, o, rfl, hk⟩ := HK.out (by omega)
          have hkd := hk i hlt
          obtain ⟨u, hu⟩ : ∃ u, t.ks.getD i t0 = u := ⟨_, rfl⟩
          rw [hu] at hkd
          have hub : u.bulk ≤ N := by rw [← hu]; exact T.kid_bulk HB.out (by rw [HN.out]; exact hlt)
          have HU := Lib.hid hu
          clear hk hu
          obtain ⟨B1, d1, B2, d2, B3, d3, h6, hkin⟩ := hkd.below hbw
          have HI := Lib.hid hkin
          clear hkin
          obtain ⟨e0, e1, e2, e3, e4, e5⟩ := h6
          have hi0 : (0 : Int) ≤ i := by omega
          have hi1 : (i : Int) < n := by omega
          have hal := below_alloc1 wr (.cells #[.int .i64 u.k, .string u.nm, .slice B1 u.ns.length d1, .bool u.ng, .slice B2 u.mg.length d2, .slice B3 u.ks.length d3] 28)
          have HI2 := Lib.hid (HI.out.below hal)
          have hbw2 := below_on hbw hal
          have q1 : decide ((s : Int) > 3000) = false := decide_eq_false (by omega)
          have q2 : decide (3000 < s) = false := decide_eq_false h3
          obtain ⟨z, hz⟩ : ∃ z, min u.size 3001 = z := ⟨_, rfl⟩
          have hz3 : z ≤ 3001 := by omega
          have hnext : min (s + z) 3001 = min (T.sizes (t.ks.take (i + 1)) + 1) 3001 := by
            rw [take_snoc _ t0 _ (by rw [HN.out]; exact hlt), T.sizes_snoc, HU.out]
            have := HS.out
            omega
          have HX := Lib.hid hnext
          have HZ := Lib.hid hz
          clear hnext hal hz
          go_wp2_with (go_at_call 24; refine (ih u _ R _ hub (by omega) HI2.out).mono ?_; rw [HZ.out]; rintro e w2 ⟨rfl, hb2⟩; replace hbw2 := below_on hbw2 hb2)
          go_roundg (n - i)
          case measure => omega
          case rel => exact ⟨i + 1, s + z, by omega, by omega, by go_num, by go_num, by omega, HX, hbw2⟩
      · obtain rfl : i = n := by omega
        have hres : min t.size 3001 = min s 3001 := by
          have htk : t.ks.take i = t.ks := by rw [← HN.out, List.take_length]
          have := HS.out
          rw [htk] at this
          rw [T.size_eq, this]
        have HR := Lib.hid hres
        clear hres
        go_wp2_with fail
        go_ret
        exact ⟨by rw [HR.out]; go_num, hbw⟩
end Go.Proofs.YthiadenmljbdaaaGreatDoor
end
section
namespace Go.Proofs.YthiadenmljbdaaaGreatDoor
open Go.RowKit
def bareB (ng : Bool) (mg : List Nat) : Bool := !ng && mg.length == 0
mutual
def T.none : T → Bool
  | .node k _ _ ng mg ks => (k == 15 && bareB ng mg) || T.nones ks
def T.nones : List T → Bool
  | [] => false
  | t :: r => t.none || T.nones r
end
theorem T.none_eq (t : T) : t.none = ((t.k == 15 && bareB t.ng t.mg) || T.nones t.ks) := by cases t; simp [T.none, T.k, T.ng, T.mg, T.ks]
theorem T.nones_snoc : ∀ (l : List T) (t : T), T.nones (l ++ [t]) = (T.nones l || t.none)
  | [], t => by simp [T.nones]
  | u :: r, t => by simp [T.nones, T.nones_snoc r t, Bool.or_assoc]
theorem T.nones_get : ∀ (l : List T) (i : Nat), i < l.length → (l.getD i t0).none = true → T.nones l = true
  | [], i, h, _ => absurd h (by simp)
  | t :: r, 0, _, h => by simp at h; simp [T.nones, h]
  | t :: r, i + 1, h, h2 => by
    have := T.nones_get r i (by simpa using h) (by simpa using h2)
    simp [T.nones, this]
set_option maxRecDepth 100000 in
theorem bare_x (w : World) (ng : Bool) (A : Option Addr) (c : Nat) (mg : List Nat) :
    Calls Tryz.prog 85 #[.agg #[.bool ng, .slice A mg.length c]] w fun e w' => e = .returned (.bool (bareB ng mg)) ∧ Below w.heap.size w w' := by
  obtain ⟨G, hG⟩ : ∃ G, bareB ng mg = G := ⟨_, rfl⟩
  rw [hG]
  obtain ⟨n, hn⟩ : ∃ n, mg.length = n := ⟨_, rfl⟩
  unfold bareB at hG
  rw [hn] at hG ⊢
  have hbw := below_alloc1 w (.cells #[.bool ng, .slice A n c] 25)
  have HG := Lib.hid hG
  clear hG hn
  cases ng
  · by_cases h0 : n = 0
    · subst h0
      go_enter Tryz.func85, Tryz.ntmps85
      go_wp2_with fail
      go_ret
      exact ⟨by rw [← HG.out]; rfl, hbw⟩
    · have h1 : ((n : Int) == 0) = false := by simp; omega
      go_enter Tryz.func85, Tryz.ntmps85
      go_wp2_with fail
      go_ret
      exact ⟨by rw [← HG.out]; simp [h0], hbw⟩
  · go_enter Tryz.func85, Tryz.ntmps85
    go_wp2_with fail
    go_ret
    exact ⟨by rw [← HG.out]; rfl, hbw⟩
set_option maxRecDepth 100000 in
set_option maxHeartbeats 1600000 in
theorem index_none (N : Nat) (hN2 : N ≤ 1048576) (ih : ∀ (t : T) (w : World) (R : Nat → Prop) (v : Value), t.bulk ≤ N → N ≤ 1048576 → T.In w R t v → Calls Tryz.prog 47 #[v] w fun e w' => e = .returned (.bool t.none) ∧ Below w.heap.size w w')
    (w : World) (R : Nat → Prop) (A : Option Addr) (c : Nat) (ks : List T) (hcap : ks.length ≤ c) (hl : ks.length ≤ 1048576) (hkid : 0 < ks.length → ∃ b o, A = some ⟨b, o, Option.none⟩ ∧ ∀ i, i < ks.length → KidAt w R b (o + i * 6) (ks.getD i t0)) (hb : ∀ i, i < ks.length → (ks.getD i t0).bulk ≤ N) :
    Calls Tryz.prog 120 #[.slice A ks.length c, .func (.func 47) #[] #[]] w fun e w' => ∃ z : Int, e = .returned (.int .i64 z) ∧ decide (0 ≤ z) = T.nones ks ∧ Below w.heap.size w w' := by
  obtain ⟨n, hn⟩ : ∃ n, ks.length = n := ⟨_, rfl⟩
  rw [hn] at hcap hl hkid hb ⊢
  have HN := Lib.hid hn
  have HK := Lib.hid hkid
  have HB := Lib.hid hb
  clear hn hkid hb
  go_enter Tryz.func120, Tryz.ntmps120
  go_wp2_with fail
  go_loopg [8] (n + 1) (fun gk v8 wr => ∃ i : Nat, gk + i = n + 1 ∧ i ≤ n ∧ v8 = .int .i64 (i : Nat) ∧ Hid (T.nones (ks.take i) = false) ∧ Below w.heap.size w wr)
  case atStart => exact ⟨0, by omega, Nat.zero_le _, rfl, Lib.hid (by simp [T.nones]), Below.refl _ _⟩
  case round =>
    obtain ⟨i, hi, hin, rfl, HS, hbw⟩ := hrel
    by_cases hlt : i < n
    · obtain ⟨b, o, rfl, hk⟩ := HK.out (by omega)
      have hkd := hk i hlt
      have hub := HB.out i hlt
      have hget := T.nones_get ks i (by rw [HN.out]; exact hlt)
      have hsn := T.nones_snoc (ks.take i) (ks.getD i t0)
      rw [← take_snoc _ t0 _ (by rw [HN.out]; exact hlt)] at hsn
      obtain ⟨u, hu⟩ : ∃ u, ks.getD i t0 = u := ⟨_, rfl⟩
      rw [hu] at hkd hub hget hsn
      have HGET := Lib.hid hget
      have HSN := Lib.hid hsn
      clear hk hu hget hsn
      obtain ⟨B1, d1, B2, d2, B3, d3, h6, hkin⟩ := hkd.below hbw
      have HI := Lib.hid hkin
      clear hkin
      obtain ⟨e0, e1, e2, e3, e4, e5⟩ := h6
      have hi0 : (0 : Int) ≤ i := by omega
      have hi1 : (i : Int) < n := by omega
      obtain ⟨r, hr⟩ : ∃ r, u.none = r := ⟨_, rfl⟩
      have HR := Lib.hid hr
      clear hr
      cases r
      · go_wp2_with (go_at_call 47; refine (ih u _ R _ hub (by omega) HI.out).mono ?_; rw [HR.out]; rintro e w2 ⟨rfl, hb2⟩; have hbw2 := below_on hbw hb2)
        go_roundg (n - i)
        case measure => omega
        case rel => exact ⟨i + 1, by omega, by omega, by go_num, Lib.hid (by rw [HSN.out, HS.out, HR.out]; rfl), hbw2⟩
      · go_wp2_with (go_at_call 47; refine (ih u _ R _ hub (by omega) HI.out).mono ?_; rw [HR.out]; rintro e w2 ⟨rfl, hb2⟩; have hbw2 := below_on hbw hb2)
        go_ret
        exact ⟨_, rfl, by rw [HGET.out HR.out]; exact decide_eq_true hi0, hbw2⟩
    · obtain rfl : i = n := by omega
      have htk : ks.take i = ks := by rw [← HN.out, List.take_length]
      have hf := HS.out
      rw [htk] at hf
      have HF := Lib.hid hf
      clear htk hf
      go_wp2_with fail
      go_ret
      exact ⟨_, rfl, by rw [HF.out]; rfl, hbw⟩
set_option maxRecDepth 100000 in
theorem contains_none (N : Nat) (hN2 : N ≤ 1048576) (ih : ∀ (t : T) (w : World) (R : Nat → Prop) (v : Value), t.bulk ≤ N → N ≤ 1048576 → T.In w R t v → Calls Tryz.prog 47 #[v] w fun e w' => e = .returned (.bool t.none) ∧ Below w.heap.size w w')
    (w : World) (R : Nat → Prop) (A : Option Addr) (c : Nat) (ks : List T) (hcap : ks.length ≤ c) (hl : ks.length ≤ 1048576) (hkid : 0 < ks.length → ∃ b o, A = some ⟨b, o, Option.none⟩ ∧ ∀ i, i < ks.length → KidAt w R b (o + i * 6) (ks.getD i t0)) (hb : ∀ i, i < ks.length → (ks.getD i t0).bulk ≤ N) :
    Calls Tryz.prog 87 #[.slice A ks.length c, .func (.func 47) #[] #[]] w fun e w' => e = .returned (.bool (T.nones ks)) ∧ Below w.heap.size w w' := by
  have H := Lib.hid (index_none N hN2 ih w R A c ks hcap hl hkid hb)
  obtain ⟨n, hn⟩ : ∃ n, ks.length = n := ⟨_, rfl⟩
  rw [hn] at H ⊢
  clear hkid hb ih hn hcap hl
  go_enter Tryz.func87, Tryz.ntmps87
  go_wp2_with (go_at_call 120; refine H.out.mono ?_; rintro e w2 ⟨z, rfl, hz, hb2⟩)
  go_ret
  exact ⟨by rw [← hz]; simp, hb2⟩
set_option maxRecDepth 100000 in
set_option maxHeartbeats 1600000 in
theorem none_t : ∀ (N : Nat) (t : T) (w : World) (R : Nat → Prop) (v : Value), t.bulk ≤ N → N ≤ 1048576 → T.In w R t v →
    Calls Tryz.prog 47 #[v] w fun e w' => e = .returned (.bool t.none) ∧ Below w.heap.size w w'
  | 0, t, _, _, _, hN, _, _ => by have := T.bulk_pos t; omega
  | N + 1, t, w, R, v, hN, hN2, h => by
    have ih := none_t N
    obtain ⟨A1, c1, A2, c2, A3, c3, rfl, hnames, hmag, hc3, hkids⟩ := h.open
    obtain ⟨n, hn⟩ : ∃ n, t.ks.length = n := ⟨_, rfl⟩
    obtain ⟨hl1, hl2, hl3, hl4, hlen⟩ := T.len_le hN
    rw [hn] at hkids hc3 hlen ⊢
    have HN := Lib.hid hn
    have HK := Lib.hid hkids
    have HB := Lib.hid hN
    have HNM := Lib.hid hnames
    have HMG := Lib.hid hmag
    clear hn hkids hN h hnames hmag
    go_enter Tryz.func47, Tryz.ntmps47
    go_upto_region 1 with (fail)
    obtain ⟨W1, hW1, pt, hb1⟩ := made_blk w #[.int .i64 t.k, .string t.nm, .slice A1 t.ns.length c1, .bool t.ng, .slice A2 t.mg.length c2, .slice A3 n c3] 28
    obtain ⟨Bt, hBt⟩ : ∃ b, b = w.heap.size := ⟨_, rfl⟩
    rw [← hW1, ← hBt]
    rw [← hBt] at pt
    clear hW1 hBt
    have hS := Below.refl W1.heap.size W1
    obtain ⟨x0, x1, x2, x3, x4, x5⟩ := pt.six
    have hcn := contains_none N (by omega) ih
    have HC := Lib.hid hcn
    have hbu : ∀ i, i < t.ks.length → (t.ks.getD i t0).bulk ≤ N := fun i hi => T.kid_bulk HB.out hi
    have HBU := Lib.hid hbu
    clear hcn hbu
    have HCC : Hid (∀ w', Below W1.heap.size W1 w' → Calls Tryz.prog 87 #[.slice A3 n c3, .func (.func 47) #[] #[]] w' fun e w'' => e = .returned (.bool (T.nones t.ks)) ∧ Below w'.heap.size w' w'') := Lib.hid (fun w' hb' => by
      have := HC.out w' R A3 c3 t.ks (by rw [HN.out]; exact hc3) (by rw [HN.out]; omega) (by
        rw [HN.out]
        intro h0
        obtain ⟨b, o, e, hk⟩ := HK.out h0
        exact ⟨b, o, e, fun i hi => (hk i hi).below (below_on hb1 hb')⟩) HBU.out
      rwa [HN.out] at this)
    have HE := Lib.hid (T.none_eq t)
    by_cases hk : t.k = 15
    · have hkk : (t.k == 15) = true := by simp [hk]
      obtain ⟨r, hr⟩ : ∃ r, bareB t.ng t.mg = r := ⟨_, rfl⟩
      have HR := Lib.hid hr
      clear hr hk
      cases r
      · go_wp2_with (first
          | (go_at_call 85; refine (bare_x _ _ _ _ _).mono ?_; rw [HR.out]; rintro e w2 ⟨rfl, hb2⟩; have hS2 := below_on hS hb2; obtain ⟨y0, y1, y2, y3, y4, y5⟩ := (pt.below hb2).six)
          | (go_at_call 87; refine (HCC.out _ hS2).mono ?_; rintro e w3 ⟨rfl, hb3⟩; have hS3 := below_on hS2 hb3))
        go_ret
        exact ⟨by rw [HE.out, HR.out]; simp, below_on hb1 hS3⟩
      · go_wp2_with (first
          | (go_at_call 85; refine (bare_x _ _ _ _ _).mono ?_; rw [HR.out]; rintro e w2 ⟨rfl, hb2⟩; have hS2 := below_on hS hb2))
        go_ret
        exact ⟨by rw [HE.out, hkk, HR.out]; rfl, below_on hb1 hS2⟩
    · have hkk : (t.k == 15) = false := by simp [hk]
      clear hk
      go_wp2_with (go_at_call 87; refine (HCC.out _ hS).mono ?_; rintro e w3 ⟨rfl, hb3⟩; have hS3 := below_on hS hb3)
      go_ret
      exact ⟨by rw [HE.out, hkk]; simp, below_on hb1 hS3⟩
end Go.Proofs.YthiadenmljbdaaaGreatDoor
end

/-
  l: the parts PGram PPrint PBack.
-/
import Derived.Test.YthiadenmljbdaaaGreatDoorB6l
import Derived.Test.YthiadenmljbdaaaGreatDoorB7l
namespace Go.Proofs.YthiadenmljbdaaaGreatDoor
section
namespace P
inductive Rd where
 | out
 | bad (c p : Nat)
 | ok (t : T) (r : List Wd)
def Rd.bind : Rd → (T → List Wd → Rd) → Rd
 | .out, _ => .out
 | .bad c p, _ => .bad c p
 | .ok t r, k => k t r
def isW (s : ByteArray) : List Wd → Bool
 | [] => false
 | t :: _ => decide (t.2.1 = s)
def kd : List Wd → Nat
 | [] => 0
 | t :: _ => t.1
def mg : List Wd → List Nat
 | [] => []
 | t :: _ => t.2.2.1
def tx : List Wd → ByteArray
 | [] => ⟨#[]⟩
 | t :: _ => t.2.1
def pl : List Wd → Nat
 | [] => 0
 | t :: _ => t.2.2.2
def wrong (e : Nat) : List Wd → Rd
 | [] => .bad 42 e
 | t :: _ => .bad 41 t.2.2.2
def nd (k : Int) (ks : List T) : T := .node k ⟨#[]⟩ [] false [] ks
def nms (l : List Wd) : List ByteArray := (l.takeWhile (fun t => t.1 == 2)).map (·.2.1)
def beh (l : List Wd) : List Wd := l.dropWhile (fun t => t.1 == 2)
def sign (l : List Wd) : Int := if isW ⟨#[60]⟩ l then 9 else if isW ⟨#[60, 61]⟩ l then 10 else if isW ⟨#[61]⟩ l then 11 else if isW ⟨#[33, 61]⟩ l then 12 else if isW ⟨#[62, 61]⟩ l then 13 else if isW ⟨#[62]⟩ l then 14 else 0
inductive NT where
 | form | formL (t : T) | impl | ored | orL (ks : List T) | anded | andL (ks : List T) | notted | prim | sum | sumL (t : T) | oper
def bound (e : Nat) (rec : NT → List Wd → Rd) (k : Int) (l : List Wd) : Rd :=
 if (nms l).isEmpty || !isW ⟨#[46]⟩ (beh l) then wrong e (beh l) else (rec .form (beh l).tail).bind fun u r => .ok (.node k ⟨#[]⟩ (nms l) false [] [u]) r
def step (e : Nat) (rec : NT → List Wd → Rd) (nt : NT) (l : List Wd) : Rd :=
 match nt with
 | .form => (rec .impl l).bind fun t r => rec (.formL t) r
 | .formL t => if isW ⟨#[105, 102, 102]⟩ l then (rec .impl l.tail).bind fun u r => rec (.formL (nd 20 [t, u])) r else .ok t l
 | .impl => (rec .ored l).bind fun t r => if isW ⟨#[105, 109, 112, 108, 105, 101, 115]⟩ r then (rec .impl r.tail).bind fun u r' => .ok (nd 19 [t, u]) r' else .ok t r
 | .ored => (rec .anded l).bind fun t r => if isW ⟨#[111, 114]⟩ r then rec (.orL [t]) r else .ok t r
 | .orL ks => if isW ⟨#[111, 114]⟩ l then (rec .anded l.tail).bind fun u r => rec (.orL (ks ++ [u])) r else .ok (nd 18 ks) l
 | .anded => (rec .notted l).bind fun t r => if isW ⟨#[97, 110, 100]⟩ r then rec (.andL [t]) r else .ok t r
 | .andL ks => if isW ⟨#[97, 110, 100]⟩ l then (rec .notted l.tail).bind fun u r => rec (.andL (ks ++ [u])) r else .ok (nd 17 ks) l
 | .notted => if isW ⟨#[110, 111, 116]⟩ l then (rec .notted l.tail).bind fun u r => .ok (nd 16 [u]) r
     else if isW ⟨#[115, 111, 109, 101]⟩ l then bound e rec 21 l.tail
     else if isW ⟨#[97, 108, 108]⟩ l then bound e rec 22 l.tail
     else rec .prim l
 | .prim => if isW ⟨#[116, 114, 117, 101]⟩ l then .ok (nd 7 []) l.tail
     else if isW ⟨#[102, 97, 108, 115, 101]⟩ l then .ok (nd 8 []) l.tail
     else if isW ⟨#[40]⟩ l then (rec .form l.tail).bind fun u r => if isW ⟨#[41]⟩ r then .ok u r.tail else wrong e r
     else if kd l == 1 && isW ⟨#[100, 105, 118, 105, 100, 101, 115]⟩ l.tail then
      (if (mg l).isEmpty then .bad 11 (pl l) else (rec .sum l.tail.tail).bind fun u r => .ok (.node 15 ⟨#[]⟩ [] false (mg l) [u]) r)
     else (rec .sum l).bind fun t r => if sign r = 0 then wrong e r else (rec .sum r.tail).bind fun u r' => .ok (nd (sign r) [t, u]) r'
 | .sum => (rec .oper l).bind fun t r => rec (.sumL t) r
 | .sumL t => if isW ⟨#[45]⟩ l then (rec .oper l.tail).bind fun u r => rec (.sumL (nd 5 [t, u])) r
     else if isW ⟨#[43]⟩ l then (rec .oper l.tail).bind fun u r => rec (.sumL (nd 4 [t, u])) r
     else .ok t l
 | .oper => if isW ⟨#[45]⟩ l then (rec .oper l.tail).bind fun u r => .ok (nd 3 [u]) r
     else if isW ⟨#[40]⟩ l then (rec .sum l.tail).bind fun u r => if isW ⟨#[41]⟩ r then .ok u r.tail else wrong e r
     else if kd l = 2 then .ok (.node 2 (tx l) [] false [] []) l.tail
     else if kd l = 1 then
      (if isW ⟨#[42]⟩ l.tail then (rec .oper l.tail.tail).bind fun u r => .ok (.node 6 ⟨#[]⟩ [] false (mg l) [u]) r else .ok (.node 1 ⟨#[]⟩ [] false (mg l) []) l.tail)
     else wrong e l
def G (e : Nat) : Nat → NT → List Wd → Rd
 | 0 => fun _ _ => .out
 | f + 1 => step e (G e f)
theorem G_succ (e f : Nat) : G e (f + 1) = step e (G e f) := rfl
theorem Rd.bind_ok {x : Rd} {k : T → List Wd → Rd} {t : T} {r : List Wd} (h : x.bind k = .ok t r) : ∃ u s, x = .ok u s ∧ k u s = .ok t r := by
 cases x with
 | out => cases h
 | bad c p => cases h
 | ok u s => exact ⟨u, s, rfl, h⟩
theorem wrong_ok {e : Nat} {l : List Wd} {t : T} {r : List Wd} (h : wrong e l = .ok t r) : False := by cases l <;> cases h
theorem wrong_out {e : Nat} {l : List Wd} (h : wrong e l = .out) : False := by cases l <;> cases h
theorem isW_cons {s : ByteArray} {l : List Wd} (h : isW s l = true) : ∃ t r, l = t :: r ∧ t.2.1 = s := by
 cases l with
 | nil => cases h
 | cons t r => exact ⟨t, r, rfl, of_decide_eq_true h⟩
theorem kd_cons {l : List Wd} {k : Nat} (h : kd l = k) (hk : k ≠ 0) : ∃ t r, l = t :: r ∧ t.1 = k := by
 cases l with
 | nil => exact absurd h.symm hk
 | cons t r => exact ⟨t, r, rfl, h⟩
def Le (x y : Rd) : Prop := x = .out ∨ x = y
theorem Le.refl (x : Rd) : Le x x := .inr rfl
theorem Le.bind {x y : Rd} {k k' : T → List Wd → Rd} (h : Le x y) (hk : ∀ t r, Le (k t r) (k' t r)) : Le (x.bind k) (y.bind k') := by
 rcases h with rfl | rfl
 · exact .inl rfl
 · cases x with
   | out => exact .inl rfl
   | bad c p => exact .inr rfl
   | ok t r => exact hk t r
theorem Le.ite {c : Prop} [Decidable c] {x y x' y' : Rd} (h : Le x y) (h' : Le x' y') : Le (if c then x else x') (if c then y else y') := by
 split
 · exact h
 · exact h'
theorem bound_le {e : Nat} {rec rec' : NT → List Wd → Rd} (h : ∀ nt l, Le (rec nt l) (rec' nt l)) (k : Int) (l : List Wd) : Le (bound e rec k l) (bound e rec' k l) :=
 Le.ite (.refl _) (Le.bind (h _ _) (fun _ _ => .refl _))
theorem step_le {e : Nat} {rec rec' : NT → List Wd → Rd} (h : ∀ nt l, Le (rec nt l) (rec' nt l)) (nt : NT) (l : List Wd) : Le (step e rec nt l) (step e rec' nt l) := by
 cases nt with
 | form => exact Le.bind (h _ _) (fun _ _ => h _ _)
 | formL t => exact Le.ite (Le.bind (h _ _) (fun _ _ => h _ _)) (.refl _)
 | impl => exact Le.bind (h _ _) (fun _ _ => Le.ite (Le.bind (h _ _) (fun _ _ => .refl _)) (.refl _))
 | ored => exact Le.bind (h _ _) (fun _ _ => Le.ite (h _ _) (.refl _))
 | orL ks => exact Le.ite (Le.bind (h _ _) (fun _ _ => h _ _)) (.refl _)
 | anded => exact Le.bind (h _ _) (fun _ _ => Le.ite (h _ _) (.refl _))
 | andL ks => exact Le.ite (Le.bind (h _ _) (fun _ _ => h _ _)) (.refl _)
 | notted => exact Le.ite (Le.bind (h _ _) (fun _ _ => .refl _)) (Le.ite (bound_le h _ _) (Le.ite (bound_le h _ _) (h _ _)))
 | prim => exact Le.ite (.refl _) (Le.ite (.refl _) (Le.ite (Le.bind (h _ _) (fun _ _ => .refl _)) (Le.ite (Le.ite (.refl _) (Le.bind (h _ _) (fun _ _ => .refl _))) (Le.bind (h _ _) (fun _ _ => Le.ite (.refl _) (Le.bind (h _ _) (fun _ _ => .refl _)))))))
 | sum => exact Le.bind (h _ _) (fun _ _ => h _ _)
 | sumL t => exact Le.ite (Le.bind (h _ _) (fun _ _ => h _ _)) (Le.ite (Le.bind (h _ _) (fun _ _ => h _ _)) (.refl _))
 | oper => exact Le.ite (Le.bind (h _ _) (fun _ _ => .refl _)) (Le.ite (Le.bind (h _ _) (fun _ _ => .refl _)) (Le.ite (.refl _) (Le.ite (Le.ite (Le.bind (h _ _) (fun _ _ => .refl _)) (.refl _)) (.refl _))))
theorem G_le (e : Nat) : ∀ (f : Nat) (nt : NT) (l : List Wd), Le (G e f nt l) (G e (f + 1) nt l)
 | 0, _, _ => .inl rfl
 | f + 1, nt, l => step_le (G_le e f) nt l
theorem G_more {e f f' : Nat} {nt : NT} {l : List Wd} (h : f ≤ f') : Le (G e f nt l) (G e f' nt l) := by
 induction f' with
 | zero => obtain rfl : f = 0 := by omega
           exact .refl _
 | succ f' ih =>
  by_cases hf : f = f' + 1
  · subst hf; exact .refl _
  · rcases ih (by omega) with h1 | h1
    · exact .inl h1
    · rw [h1]; exact G_le e f' nt l
theorem G_ok_more {e f f' : Nat} {nt : NT} {l : List Wd} {t : T} {r : List Wd} (h : G e f nt l = .ok t r) (hf : f ≤ f') : G e f' nt l = .ok t r := by
 rcases G_more (e := e) (nt := nt) (l := l) hf with h1 | h1
 · rw [h] at h1; cases h1
 · rw [← h1, h]
theorem beh_len (l : List Wd) : (beh l).length ≤ l.length := by
 unfold beh
 exact (List.dropWhile_sublist _).length_le
theorem beh_lt {l : List Wd} (h : (nms l).isEmpty = false) : (beh l).length < l.length := by
 cases l with
 | nil => cases h
 | cons t r =>
  unfold nms at h
  unfold beh
  by_cases ht : (t.1 == 2) = true
  · rw [List.dropWhile_cons_of_pos (p := fun t : Wd => t.1 == 2) ht]
    have := (List.dropWhile_sublist (l := r) (fun t : Wd => t.1 == 2)).length_le
    simp only [List.length_cons]
    omega
  · rw [List.takeWhile_cons, if_neg ht] at h
    cases h
def NT.loop : NT → Bool
 | .formL _ | .orL _ | .andL _ | .sumL _ => true
 | _ => false
theorem tail_len {l : List Wd} {t : Wd} {r : List Wd} (h : l = t :: r) : l.tail.length + 1 = l.length := by subst h; rfl
theorem tail_le (l : List Wd) : l.tail.length ≤ l.length := by cases l <;> simp
theorem G_len (e : Nat) : ∀ (f : Nat) (nt : NT) (l : List Wd) (t : T) (r : List Wd), G e f nt l = .ok t r → r.length ≤ l.length ∧ (nt.loop = false → r.length < l.length)
 | 0, _, _, _, _, h => by cases h
 | f + 1, nt, l, t, r, h => by
  have ih := G_len e f
  rw [G_succ] at h
  cases nt with
  | form =>
   obtain ⟨u, s, h1, h2⟩ := Rd.bind_ok h
   have a := (ih _ _ _ _ h1).2 rfl
   have b := (ih _ _ _ _ h2).1
   exact ⟨by omega, fun _ => by omega⟩
  | formL t0 =>
   unfold step at h
   dsimp only at h
   split at h
   · rename_i hw
     obtain ⟨w, q, hl, _⟩ := isW_cons hw
     have := tail_len hl
     obtain ⟨u, s, h1, h2⟩ := Rd.bind_ok h
     have a := (ih _ _ _ _ h1).2 rfl
     have b := (ih _ _ _ _ h2).1
     exact ⟨by omega, fun e => by cases e⟩
   · injection h with h1 h2
     subst h2
     exact ⟨Nat.le_refl _, fun e => by cases e⟩
  | impl =>
   obtain ⟨u, s, h1, h2⟩ := Rd.bind_ok h
   have a := (ih _ _ _ _ h1).2 rfl
   split at h2
   · have := tail_le s
     obtain ⟨u', s', h3, h4⟩ := Rd.bind_ok h2
     have b := (ih _ _ _ _ h3).2 rfl
     injection h4 with h5 h6
     subst h6
     exact ⟨by omega, fun _ => by omega⟩
   · injection h2 with h3 h4
     subst h4
     exact ⟨by omega, fun _ => by omega⟩
  | ored =>
   obtain ⟨u, s, h1, h2⟩ := Rd.bind_ok h
   have a := (ih _ _ _ _ h1).2 rfl
   split at h2
   · have b := (ih _ _ _ _ h2).1
     exact ⟨by omega, fun _ => by omega⟩
   · injection h2 with h3 h4
     subst h4
     exact ⟨by omega, fun _ => by omega⟩
  | orL ks =>
   unfold step at h
   dsimp only at h
   split at h
   · rename_i hw
     obtain ⟨w, q, hl, _⟩ := isW_cons hw
     have := tail_len hl
     obtain ⟨u, s, h1, h2⟩ := Rd.bind_ok h
     have a := (ih _ _ _ _ h1).2 rfl
     have b := (ih _ _ _ _ h2).1
     exact ⟨by omega, fun e => by cases e⟩
   · injection h with h1 h2
     subst h2
     exact ⟨Nat.le_refl _, fun e => by cases e⟩
  | anded =>
   obtain ⟨u, s, h1, h2⟩ := Rd.bind_ok h
   have a := (ih _ _ _ _ h1).2 rfl
   split at h2
   · have b := (ih _ _ _ _ h2).1
     exact ⟨by omega, fun _ => by omega⟩
   · injection h2 with h3 h4
     subst h4
     exact ⟨by omega, fun _ => by omega⟩
  | andL ks =>
   unfold step at h
   dsimp only at h
   split at h
   · rename_i hw
     obtain ⟨w, q, hl, _⟩ := isW_cons hw
     have := tail_len hl
     obtain ⟨u, s, h1, h2⟩ := Rd.bind_ok h
     have a := (ih _ _ _ _ h1).2 rfl
     have b := (ih _ _ _ _ h2).1
     exact ⟨by omega, fun e => by cases e⟩
   · injection h with h1 h2
     subst h2
     exact ⟨Nat.le_refl _, fun e => by cases e⟩
  | notted =>
   have hbd : ∀ k, bound e (G e f) k l.tail = .ok t r → r.length ≤ l.length ∧ r.length < l.length := fun k hk => by
    unfold bound at hk
    split at hk
    · exact (wrong_ok hk).elim
    ·
     rename_i hc
     have hn : (nms l.tail).isEmpty = false := by
      cases hq : (nms l.tail).isEmpty
      · rfl
      · rw [hq] at hc; exact absurd rfl hc
     have h0 := beh_lt hn
     have h00 := tail_le l
     have h01 := tail_le (beh l.tail)
     obtain ⟨u, s, h1, h2⟩ := Rd.bind_ok hk
     have a := (ih _ _ _ _ h1).2 rfl
     injection h2 with h3 h4
     subst h4
     omega
   unfold step at h
   dsimp only at h
   split at h
   · have := tail_le l
     obtain ⟨u, s, h1, h2⟩ := Rd.bind_ok h
     have a := (ih _ _ _ _ h1).2 rfl
     injection h2 with h3 h4
     subst h4
     exact ⟨by omega, fun _ => by omega⟩
   · split at h
     · exact ⟨(hbd _ h).1, fun _ => (hbd _ h).2⟩
     · split at h
       · exact ⟨(hbd _ h).1, fun _ => (hbd _ h).2⟩
       · have a := (ih _ _ _ _ h).2 rfl
         exact ⟨by omega, fun _ => a⟩
  | prim =>
   unfold step at h
   dsimp only at h
   split at h
   · rename_i hw
     obtain ⟨w, q, hl, _⟩ := isW_cons hw
     have := tail_len hl
     injection h with h1 h2
     subst h2
     exact ⟨by omega, fun _ => by omega⟩
   split at h
   · rename_i hw
     obtain ⟨w, q, hl, _⟩ := isW_cons hw
     have := tail_len hl
     injection h with h1 h2
     subst h2
     exact ⟨by omega, fun _ => by omega⟩
   split at h
   ·
    have h00 := tail_le l
    obtain ⟨u, s, h1, h2⟩ := Rd.bind_ok h
    have a := (ih _ _ _ _ h1).2 rfl
    have h01 := tail_le s
    split at h2
    · injection h2 with h3 h4
      subst h4
      exact ⟨by omega, fun _ => by omega⟩
    · exact (wrong_ok h2).elim
   split at h
   ·
    split at h
    · cases h
    · have h00 := tail_le l
      have h01 := tail_le l.tail
      obtain ⟨u, s, h1, h2⟩ := Rd.bind_ok h
      have a := (ih _ _ _ _ h1).2 rfl
      injection h2 with h3 h4
      subst h4
      exact ⟨by omega, fun _ => by omega⟩
   ·
    obtain ⟨u, s, h1, h2⟩ := Rd.bind_ok h
    have a := (ih _ _ _ _ h1).2 rfl
    split at h2
    · exact (wrong_ok h2).elim
    · have h01 := tail_le s
      obtain ⟨u', s', h3, h4⟩ := Rd.bind_ok h2
      have b := (ih _ _ _ _ h3).2 rfl
      injection h4 with h5 h6
      subst h6
      exact ⟨by omega, fun _ => by omega⟩
  | sum =>
   obtain ⟨u, s, h1, h2⟩ := Rd.bind_ok h
   have a := (ih _ _ _ _ h1).2 rfl
   have b := (ih _ _ _ _ h2).1
   exact ⟨by omega, fun _ => by omega⟩
  | sumL t0 =>
   unfold step at h
   dsimp only at h
   split at h
   · rename_i hw
     obtain ⟨w, q, hl, _⟩ := isW_cons hw
     have := tail_len hl
     obtain ⟨u, s, h1, h2⟩ := Rd.bind_ok h
     have a := (ih _ _ _ _ h1).2 rfl
     have b := (ih _ _ _ _ h2).1
     exact ⟨by omega, fun e => by cases e⟩
   ·
    split at h
    · rename_i hw
      obtain ⟨w, q, hl, _⟩ := isW_cons hw
      have := tail_len hl
      obtain ⟨u, s, h1, h2⟩ := Rd.bind_ok h
      have a := (ih _ _ _ _ h1).2 rfl
      have b := (ih _ _ _ _ h2).1
      exact ⟨by omega, fun e => by cases e⟩
    · injection h with h1 h2
      subst h2
      exact ⟨Nat.le_refl _, fun e => by cases e⟩
  | oper =>
   unfold step at h
   dsimp only at h
   split at h
   · have h00 := tail_le l
     obtain ⟨u, s, h1, h2⟩ := Rd.bind_ok h
     have a := (ih _ _ _ _ h1).2 rfl
     injection h2 with h3 h4
     subst h4
     exact ⟨by omega, fun _ => by omega⟩
   split at h
   ·
    have h00 := tail_le l
    obtain ⟨u, s, h1, h2⟩ := Rd.bind_ok h
    have a := (ih _ _ _ _ h1).2 rfl
    have h01 := tail_le s
    split at h2
    · injection h2 with h3 h4
      subst h4
      exact ⟨by omega, fun _ => by omega⟩
    · exact (wrong_ok h2).elim
   split at h
   · rename_i hk
     obtain ⟨w, q, hl, _⟩ := kd_cons hk (by decide)
     have := tail_len hl
     injection h with h1 h2
     subst h2
     exact ⟨by omega, fun _ => by omega⟩
   split at h
   ·
    rename_i hk
    obtain ⟨w, q, hl, _⟩ := kd_cons hk (by decide)
    have := tail_len hl
    split at h
    · have h01 := tail_le l.tail
      obtain ⟨u, s, h1, h2⟩ := Rd.bind_ok h
      have a := (ih _ _ _ _ h1).2 rfl
      injection h2 with h3 h4
      subst h4
      exact ⟨by omega, fun _ => by omega⟩
    · injection h with h1 h2
      subst h2
      exact ⟨by omega, fun _ => by omega⟩
   · exact (wrong_ok h).elim
def NT.rank : NT → Nat
 | .form => 12 | .formL _ => 11 | .impl => 10 | .ored => 9 | .orL _ => 8 | .anded => 7 | .andL _ => 6 | .notted => 5 | .prim => 4 | .sum => 3 | .sumL _ => 2 | .oper => 1
theorem bind_out {x : Rd} {k : T → List Wd → Rd} (h : x.bind k = .out) : x = .out ∨ ∃ u s, x = .ok u s ∧ k u s = .out := by
 cases x with
 | out => exact .inl rfl
 | bad c p => cases h
 | ok u s => exact .inr ⟨u, s, rfl, h⟩
theorem G_total (e : Nat) : ∀ (f : Nat) (nt : NT) (l : List Wd), 13 * l.length + nt.rank < f → G e f nt l ≠ .out
 | 0, _, _, hf => by omega
 | f + 1, nt, l, hf => fun h => by
  have ih := G_total e f
  have len := G_len e f
  rw [G_succ] at h
  have h00 := tail_le l
  have h01 := tail_le l.tail
  cases nt with
  | form =>
   rcases bind_out h with h1 | ⟨u, s, h1, h2⟩
   · exact ih _ _ (by simp only [NT.rank] at hf ⊢; omega) h1
   · have a := (len _ _ _ _ h1).2 rfl
     exact ih _ _ (by simp only [NT.rank] at hf ⊢; omega) h2
  | formL t0 =>
   unfold step at h
   dsimp only at h
   split at h
   · rename_i hw
     obtain ⟨w, q, hl, _⟩ := isW_cons hw
     have := tail_len hl
     rcases bind_out h with h1 | ⟨u, s, h1, h2⟩
     · exact ih _ _ (by simp only [NT.rank] at hf ⊢; omega) h1
     · have a := (len _ _ _ _ h1).2 rfl
       exact ih _ _ (by simp only [NT.rank] at hf ⊢; omega) h2
   · cases h
  | impl =>
   rcases bind_out h with h1 | ⟨u, s, h1, h2⟩
   · exact ih _ _ (by simp only [NT.rank] at hf ⊢; omega) h1
   · have a := (len _ _ _ _ h1).2 rfl
     have h02 := tail_le s
     split at h2
     · rcases bind_out h2 with h3 | ⟨u', s', h3, h4⟩
       · exact ih _ _ (by simp only [NT.rank] at hf ⊢; omega) h3
       · cases h4
     · cases h2
  | ored =>
   rcases bind_out h with h1 | ⟨u, s, h1, h2⟩
   · exact ih _ _ (by simp only [NT.rank] at hf ⊢; omega) h1
   · have a := (len _ _ _ _ h1).2 rfl
     split at h2
     · exact ih _ _ (by simp only [NT.rank] at hf ⊢; omega) h2
     · cases h2
  | orL ks =>
   unfold step at h
   dsimp only at h
   split at h
   · rename_i hw
     obtain ⟨w, q, hl, _⟩ := isW_cons hw
     have := tail_len hl
     rcases bind_out h with h1 | ⟨u, s, h1, h2⟩
     · exact ih _ _ (by simp only [NT.rank] at hf ⊢; omega) h1
     · have a := (len _ _ _ _ h1).2 rfl
       exact ih _ _ (by simp only [NT.rank] at hf ⊢; omega) h2
   · cases h
  | anded =>
   rcases bind_out h with h1 | ⟨u, s, h1, h2⟩
   · exact ih _ _ (by simp only [NT.rank] at hf ⊢; omega) h1
   · have a := (len _ _ _ _ h1).2 rfl
     split at h2
     · exact ih _ _ (by simp only [NT.rank] at hf ⊢; omega) h2
     · cases h2
  | andL ks =>
   unfold step at h
   dsimp only at h
   split at h
   · rename_i hw
     obtain ⟨w, q, hl, _⟩ := isW_cons hw
     have := tail_len hl
     rcases bind_out h with h1 | ⟨u, s, h1, h2⟩
     · exact ih _ _ (by simp only [NT.rank] at hf ⊢; omega) h1
     · have a := (len _ _ _ _ h1).2 rfl
       exact ih _ _ (by simp only [NT.rank] at hf ⊢; omega) h2
   · cases h
  | notted =>
   have hbd : ∀ k, l ≠ [] → bound e (G e f) k l.tail = .out → False := fun k hl hk => by
    unfold bound at hk
    split at hk
    · exact wrong_out hk
    · have h0 := beh_len l.tail
      have h02 := tail_le (beh l.tail)
      have h03 : l.tail.length + 1 = l.length := by cases l with
       | nil => exact absurd rfl hl
       | cons a b => rfl
      rcases bind_out hk with h1 | ⟨u, s, h1, h2⟩
      · exact ih _ _ (by simp only [NT.rank] at hf ⊢; omega) h1
      · cases h2
   have hne : ∀ s, isW s l = true → l ≠ [] := fun s hs e => by subst e; cases hs
   unfold step at h
   dsimp only at h
   split at h
   · rename_i hw
     obtain ⟨w, q, hl, _⟩ := isW_cons hw
     have := tail_len hl
     rcases bind_out h with h1 | ⟨u, s, h1, h2⟩
     · exact ih _ _ (by simp only [NT.rank] at hf ⊢; omega) h1
     · cases h2
   split at h
   · rename_i hw
     exact hbd _ (hne _ hw) h
   split at h
   · rename_i hw
     exact hbd _ (hne _ hw) h
   · exact ih _ _ (by simp only [NT.rank] at hf ⊢; omega) h
  | prim =>
   unfold step at h
   dsimp only at h
   split at h
   · cases h
   split at h
   · cases h
   split at h
   ·
    rename_i hw
    obtain ⟨w, q, hl, _⟩ := isW_cons hw
    have := tail_len hl
    rcases bind_out h with h1 | ⟨u, s, h1, h2⟩
    · exact ih _ _ (by simp only [NT.rank] at hf ⊢; omega) h1
    · split at h2
      · cases h2
      · exact wrong_out h2
   split at h
   · split at h
     · cases h
     · rcases bind_out h with h1 | ⟨u, s, h1, h2⟩
       · exact ih _ _ (by simp only [NT.rank] at hf ⊢; omega) h1
       · cases h2
   ·
    rcases bind_out h with h1 | ⟨u, s, h1, h2⟩
    · exact ih _ _ (by simp only [NT.rank] at hf ⊢; omega) h1
    · have a := (len _ _ _ _ h1).2 rfl
      have h02 := tail_le s
      split at h2
      · exact wrong_out h2
      · rcases bind_out h2 with h3 | ⟨u', s', h3, h4⟩
        · exact ih _ _ (by simp only [NT.rank] at hf ⊢; omega) h3
        · cases h4
  | sum =>
   rcases bind_out h with h1 | ⟨u, s, h1, h2⟩
   · exact ih _ _ (by simp only [NT.rank] at hf ⊢; omega) h1
   · have a := (len _ _ _ _ h1).2 rfl
     exact ih _ _ (by simp only [NT.rank] at hf ⊢; omega) h2
  | sumL t0 =>
   unfold step at h
   dsimp only at h
   split at h
   · rename_i hw
     obtain ⟨w, q, hl, _⟩ := isW_cons hw
     have := tail_len hl
     rcases bind_out h with h1 | ⟨u, s, h1, h2⟩
     · exact ih _ _ (by simp only [NT.rank] at hf ⊢; omega) h1
     · have a := (len _ _ _ _ h1).2 rfl
       exact ih _ _ (by simp only [NT.rank] at hf ⊢; omega) h2
   split at h
   · rename_i hw
     obtain ⟨w, q, hl, _⟩ := isW_cons hw
     have := tail_len hl
     rcases bind_out h with h1 | ⟨u, s, h1, h2⟩
     · exact ih _ _ (by simp only [NT.rank] at hf ⊢; omega) h1
     · have a := (len _ _ _ _ h1).2 rfl
       exact ih _ _ (by simp only [NT.rank] at hf ⊢; omega) h2
   · cases h
  | oper =>
   unfold step at h
   dsimp only at h
   split at h
   · rename_i hw
     obtain ⟨w, q, hl, _⟩ := isW_cons hw
     have := tail_len hl
     rcases bind_out h with h1 | ⟨u, s, h1, h2⟩
     · exact ih _ _ (by simp only [NT.rank] at hf ⊢; omega) h1
     · cases h2
   split at h
   ·
    rename_i hw
    obtain ⟨w, q, hl, _⟩ := isW_cons hw
    have := tail_len hl
    rcases bind_out h with h1 | ⟨u, s, h1, h2⟩
    · exact ih _ _ (by simp only [NT.rank] at hf ⊢; omega) h1
    · split at h2
      · cases h2
      · exact wrong_out h2
   split at h
   · cases h
   split at h
   ·
    rename_i hk
    obtain ⟨w, q, hl, _⟩ := kd_cons hk (by decide)
    have := tail_len hl
    split at h
    · rcases bind_out h with h1 | ⟨u, s, h1, h2⟩
      · exact ih _ _ (by simp only [NT.rank] at hf ⊢; omega) h1
      · cases h2
    · cases h
   · exact wrong_out h
def fuel (l : List Wd) : Nat := 13 * l.length + 13
def read (e : Nat) (l : List Wd) : Rd := (G e (fuel l) .form l).bind fun t r => if r.isEmpty then .ok t [] else wrong e r
end P
end
section
namespace P
def Rds (e : Nat) (nt : NT) (l : List Wd) (t : T) (r : List Wd) : Prop := ∃ f, G e f nt l = .ok t r
section
variable {e : Nat} {l r s : List Wd} {t u v : T} {ks : List T}
theorem Rds.two {n1 n2 : NT} {l1 l2 r1 r2 : List Wd} {t1 t2 : T} (h1 : Rds e n1 l1 t1 r1) (h2 : Rds e n2 l2 t2 r2) : ∃ f, G e f n1 l1 = .ok t1 r1 ∧ G e f n2 l2 = .ok t2 r2 := by
 obtain ⟨f1, h1⟩ := h1
 obtain ⟨f2, h2⟩ := h2
 exact ⟨max f1 f2, G_ok_more h1 (Nat.le_max_left _ _), G_ok_more h2 (Nat.le_max_right _ _)⟩
theorem r_form (h1 : Rds e .impl l t r) (h2 : Rds e (.formL t) r u s) : Rds e .form l u s := by
 obtain ⟨f, a, b⟩ := h1.two h2
 exact ⟨f + 1, by rw [G_succ]; simp only [step, a, Rd.bind]; exact b⟩
theorem r_impl0 (h1 : Rds e .ored l t r) (h : isW ⟨#[105, 109, 112, 108, 105, 101, 115]⟩ r = false) : Rds e .impl l t r := by
 obtain ⟨f, a⟩ := h1
 exact ⟨f + 1, by rw [G_succ]; simp only [step, a, Rd.bind, h]; rfl⟩
theorem r_ored0 (h1 : Rds e .anded l t r) (h : isW ⟨#[111, 114]⟩ r = false) : Rds e .ored l t r := by
 obtain ⟨f, a⟩ := h1
 exact ⟨f + 1, by rw [G_succ]; simp only [step, a, Rd.bind, h]; rfl⟩
theorem r_anded0 (h1 : Rds e .notted l t r) (h : isW ⟨#[97, 110, 100]⟩ r = false) : Rds e .anded l t r := by
 obtain ⟨f, a⟩ := h1
 exact ⟨f + 1, by rw [G_succ]; simp only [step, a, Rd.bind, h]; rfl⟩
end
def NOK (m : List Nat) : Prop := N.Lim m ∧ N.ofN (N.nv m) = m
inductive Wf : Bool → T → Prop
 | num (m : List Nat) (hm : NOK m) : Wf false (.node 1 ⟨#[]⟩ [] false m [])
 | var (s : ByteArray) (hs : nameB s = true) : Wf false (.node 2 s [] false [] [])
 | neg (t : T) (ht : Wf false t) : Wf false (nd 3 [t])
 | add (t u : T) (ht : Wf false t) (hu : Wf false u) : Wf false (nd 4 [t, u])
 | sub (t u : T) (ht : Wf false t) (hu : Wf false u) : Wf false (nd 5 [t, u])
 | mul (m : List Nat) (hm : NOK m) (t : T) (ht : Wf false t) : Wf false (.node 6 ⟨#[]⟩ [] false m [t])
 | tt : Wf true (nd 7 [])
 | ff : Wf true (nd 8 [])
 | cmp (k : Int) (hk : 9 ≤ k ∧ k ≤ 14) (t u : T) (ht : Wf false t) (hu : Wf false u) : Wf true (nd k [t, u])
 | div (m : List Nat) (hm : NOK m) (h0 : m ≠ []) (t : T) (ht : Wf false t) : Wf true (.node 15 ⟨#[]⟩ [] false m [t])
 | not (t : T) (ht : Wf true t) : Wf true (nd 16 [t])
 | and (t u : T) (ks : List T) (ht : Wf true t) (hu : Wf true u) (hks : ∀ k ∈ ks, Wf true k) : Wf true (nd 17 (t :: u :: ks))
 | or (t u : T) (ks : List T) (ht : Wf true t) (hu : Wf true u) (hks : ∀ k ∈ ks, Wf true k) : Wf true (nd 18 (t :: u :: ks))
 | imp (t u : T) (ht : Wf true t) (hu : Wf true u) : Wf true (nd 19 [t, u])
 | iff (t u : T) (ht : Wf true t) (hu : Wf true u) : Wf true (nd 20 [t, u])
 | some (s : ByteArray) (ns : List ByteArray) (hs : nameB s = true) (hns : ∀ a ∈ ns, nameB a = true) (t : T) (ht : Wf true t) : Wf true (.node 21 ⟨#[]⟩ (s :: ns) false [] [t])
 | all (s : ByteArray) (ns : List ByteArray) (hs : nameB s = true) (hns : ∀ a ∈ ns, nameB a = true) (t : T) (ht : Wf true t) : Wf true (.node 22 ⟨#[]⟩ (s :: ns) false [] [t])
abbrev It := Option (Nat × ByteArray × List Nat)
abbrev Sg (s : ByteArray) : It := Option.some (4, s, [])
abbrev Kw (s : ByteArray) : It := Option.some (3, s, [])
abbrev Nm (s : ByteArray) : It := Option.some (2, s, [])
abbrev Nu (m : List Nat) : It := Option.some (1, ⟨(N.txt (N.nv m)).toArray⟩, m)
def level (k : Int) : Nat := if k = 20 then 1 else if k = 19 then 2 else if k = 18 then 3 else if k = 17 then 4 else if k = 16 ∨ k = 21 ∨ k = 22 then 5 else 6
def binds (k : Int) : Bool := k == 21 || k == 22
abbrev Pt := Int × (Bool → List It)
def par (l : List It) : List It := Sg ⟨#[40]⟩ :: (l ++ [Sg ⟨#[41]⟩])
def wrap (least : Nat) (last : Bool) (p : Pt) : List It := if level p.1 < least ∨ (binds p.1 = true ∧ last = false) then par (p.2 true) else p.2 last
def tight (p : Pt) : List It := if p.1 = 4 ∨ p.1 = 5 then par (p.2 true) else p.2 true
def rowR (w : ByteArray) (other : Nat) (last : Bool) : List Pt → List It
 | [] => []
 | p :: ps => none :: Kw w :: none :: (wrap other (last && ps.isEmpty) p ++ rowR w other last ps)
def row (w : ByteArray) (first other : Nat) (last : Bool) : List Pt → List It
 | [] => []
 | p :: ps => wrap first false p ++ rowR w other last ps
def namesIt (ns : List ByteArray) : List It := ns.flatMap fun s => [Nm s, none]
def sgn (k : Int) : ByteArray := if k = 9 then ⟨#[60]⟩ else if k = 10 then ⟨#[60, 61]⟩ else if k = 11 then ⟨#[61]⟩ else if k = 12 then ⟨#[33, 61]⟩ else if k = 13 then ⟨#[62, 61]⟩ else ⟨#[62]⟩
def p0 : Pt := (0, fun _ => [])
def asm (k : Int) (nm : ByteArray) (ns : List ByteArray) (m : List Nat) (ps : List Pt) (last : Bool) : List It :=
 let a := ps.getD 0 p0
 let b := ps.getD 1 p0
 if k = 1 then [Nu m] else if k = 2 then [Nm nm] else if k = 3 then Sg ⟨#[45]⟩ :: tight a
 else if k = 4 then a.2 true ++ none :: Sg ⟨#[43]⟩ :: none :: tight b
 else if k = 5 then a.2 true ++ none :: Sg ⟨#[45]⟩ :: none :: tight b
 else if k = 6 then Nu m :: none :: Sg ⟨#[42]⟩ :: none :: tight a
 else if k = 7 then [Kw ⟨#[116, 114, 117, 101]⟩] else if k = 8 then [Kw ⟨#[102, 97, 108, 115, 101]⟩]
 else if k = 15 then Nu m :: none :: Kw ⟨#[100, 105, 118, 105, 100, 101, 115]⟩ :: none :: a.2 true
 else if k = 16 then Kw ⟨#[110, 111, 116]⟩ :: none :: wrap 5 last a
 else if k = 17 then row ⟨#[97, 110, 100]⟩ 5 5 last ps
 else if k = 18 then row ⟨#[111, 114]⟩ 4 4 last ps
 else if k = 19 then row ⟨#[105, 109, 112, 108, 105, 101, 115]⟩ 3 2 last ps
 else if k = 20 then row ⟨#[105, 102, 102]⟩ 1 2 last ps
 else if k = 21 then Kw ⟨#[115, 111, 109, 101]⟩ :: none :: (namesIt ns ++ Sg ⟨#[46]⟩ :: none :: wrap 1 last a)
 else if k = 22 then Kw ⟨#[97, 108, 108]⟩ :: none :: (namesIt ns ++ Sg ⟨#[46]⟩ :: none :: wrap 1 last a)
 else a.2 true ++ none :: Sg (sgn k) :: none :: b.2 true
mutual
def body : T → Bool → List It
 | .node k nm ns _ m ks => asm k nm ns m (parts ks)
def parts : List T → List Pt
 | [] => []
 | .node k nm ns ng m ks :: r => (k, body (.node k nm ns ng m ks)) :: parts r
end
def pt (t : T) : Pt := (t.k, body t)
theorem parts_cons (t : T) (r : List T) : parts (t :: r) = pt t :: parts r := by cases t; rfl
def key (w : Wd) : Nat × ByteArray × List Nat := (w.1, w.2.1, w.2.2.1)
end P
end
section
namespace P
def cl (r : List Wd) : Nat := if isW ⟨#[97, 110, 100]⟩ r then 4 else if isW ⟨#[111, 114]⟩ r then 3 else if isW ⟨#[105, 109, 112, 108, 105, 101, 115]⟩ r then 2 else if isW ⟨#[105, 102, 102]⟩ r then 1 else 0
theorem cl_and {r : List Wd} (h : cl r < 4) : isW ⟨#[97, 110, 100]⟩ r = false := by
 unfold cl at h
 split at h
 · omega
 · simpa using ‹¬ isW ⟨#[97, 110, 100]⟩ r = true›
theorem cl_or {r : List Wd} (h : cl r < 3) : isW ⟨#[111, 114]⟩ r = false := by
 unfold cl at h
 split at h
 · omega
 split at h
 · omega
 · simpa using ‹¬ isW ⟨#[111, 114]⟩ r = true›
theorem cl_imp {r : List Wd} (h : cl r < 2) : isW ⟨#[105, 109, 112, 108, 105, 101, 115]⟩ r = false := by
 unfold cl at h
 split at h
 · omega
 split at h
 · omega
 split at h
 · omega
 · simpa using ‹¬ isW ⟨#[105, 109, 112, 108, 105, 101, 115]⟩ r = true›
def ntOf (n : Nat) : NT := if n = 1 then .form else if n = 2 then .impl else if n = 3 then .ored else if n = 4 then .anded else if n = 5 then .notted else .prim
def At (e n : Nat) (l r : List Wd) (t : T) : Prop := if n = 1 then ∀ u s, Rds e (.formL t) r u s → Rds e .form (l ++ r) u s else Rds e (ntOf n) (l ++ r) t r
theorem At.one {e : Nat} {l r : List Wd} {t : T} (h : At e 1 l r t) : ∀ u s, Rds e (.formL t) r u s → Rds e .form (l ++ r) u s := h
theorem At.of {e n : Nat} {l r : List Wd} {t : T} (h : At e n l r t) (hn : n ≠ 1) : Rds e (ntOf n) (l ++ r) t r := by
 unfold At at h
 rwa [if_neg hn] at h
theorem At.mk1 {e : Nat} {l r : List Wd} {t : T} (h : ∀ u s, Rds e (.formL t) r u s → Rds e .form (l ++ r) u s) : At e 1 l r t := h
theorem At.mk {e n : Nat} {l r : List Wd} {t : T} (hn : n ≠ 1) (h : Rds e (ntOf n) (l ++ r) t r) : At e n l r t := by
 unfold At
 rwa [if_neg hn]
theorem up54 {e : Nat} {l r : List Wd} {t : T} (h : At e 5 l r t) (hc : cl r < 4) : At e 4 l r t := At.mk (by decide) (r_anded0 (h.of (by decide)) (cl_and hc))
theorem up43 {e : Nat} {l r : List Wd} {t : T} (h : At e 4 l r t) (hc : cl r < 3) : At e 3 l r t := At.mk (by decide) (r_ored0 (h.of (by decide)) (cl_or hc))
theorem up32 {e : Nat} {l r : List Wd} {t : T} (h : At e 3 l r t) (hc : cl r < 2) : At e 2 l r t := At.mk (by decide) (r_impl0 (h.of (by decide)) (cl_imp hc))
theorem up21 {e : Nat} {l r : List Wd} {t : T} (h : At e 2 l r t) : At e 1 l r t := At.mk1 fun u s hu => r_form (h.of (by decide)) hu
theorem up {e n m : Nat} {l r : List Wd} {t : T} (h : At e n l r t) (hm : 1 ≤ m) (hmn : m ≤ n) (hn : n ≤ 5) (hc : cl r < max m 2) : At e m l r t := by
 have a5 : n = 5 → m ≤ 4 → At e 4 l r t := fun hn5 hm4 => by subst hn5; exact up54 h (by omega)
 have a4 : m ≤ 4 → 4 ≤ n → At e 4 l r t := fun h1 h2 => by
  by_cases e5 : n = 5
  · exact a5 e5 h1
  · obtain rfl : n = 4 := by omega
    exact h
 have a3 : m ≤ 3 → 3 ≤ n → At e 3 l r t := fun h1 h2 => by
  by_cases e4 : 4 ≤ n
  · exact up43 (a4 (by omega) e4) (by omega)
  · obtain rfl : n = 3 := by omega
    exact h
 have a2 : m ≤ 2 → 2 ≤ n → At e 2 l r t := fun h1 h2 => by
  by_cases e3 : 3 ≤ n
  · exact up32 (a3 (by omega) e3) (by omega)
  · obtain rfl : n = 2 := by omega
    exact h
 have : m = 1 ∨ m = 2 ∨ m = 3 ∨ m = 4 ∨ m = 5 := by omega
 rcases this with rfl | rfl | rfl | rfl | rfl
 · by_cases e2 : 2 ≤ n
   · exact up21 (a2 (by omega) e2)
   · obtain rfl : n = 1 := by omega
     exact h
 · exact a2 (by omega) hmn
 · exact a3 (by omega) hmn
 · exact a4 (by omega) hmn
 · obtain rfl : n = 5 := by omega
   exact h
theorem body_add (t u : T) : body (nd 4 [t, u]) true = body t true ++ none :: Sg ⟨#[43]⟩ :: none :: tight (pt u) := by cases t; cases u; rfl
theorem body_sub (t u : T) : body (nd 5 [t, u]) true = body t true ++ none :: Sg ⟨#[45]⟩ :: none :: tight (pt u) := by cases t; cases u; rfl
theorem body_cmp {k : Int} (hk : 9 ≤ k ∧ k ≤ 14) (t u : T) (last : Bool) : body (nd k [t, u]) last = body t true ++ none :: Sg (sgn k) :: none :: body u true := by
 have : k = 9 ∨ k = 10 ∨ k = 11 ∨ k = 12 ∨ k = 13 ∨ k = 14 := by omega
 cases t; cases u
 rcases this with rfl | rfl | rfl | rfl | rfl | rfl
 all_goals rfl
theorem body_div (m : List Nat) (t : T) (last : Bool) : body (.node 15 ⟨#[]⟩ [] false m [t]) last = Nu m :: none :: Kw ⟨#[100, 105, 118, 105, 100, 101, 115]⟩ :: none :: body t true := by cases t; rfl
theorem body_not (t : T) (last : Bool) : body (nd 16 [t]) last = Kw ⟨#[110, 111, 116]⟩ :: none :: wrap 5 last (pt t) := by cases t; rfl
theorem body_or (t : T) (ks : List T) (last : Bool) : body (nd 18 (t :: ks)) last = wrap 4 false (pt t) ++ rowR ⟨#[111, 114]⟩ 4 last (parts ks) := by
 show row ⟨#[111, 114]⟩ 4 4 last (parts (t :: ks)) = _
 rw [parts_cons]; rfl
theorem body_some (ns : List ByteArray) (t : T) (last : Bool) : body (.node 21 ⟨#[]⟩ ns false [] [t]) last = Kw ⟨#[115, 111, 109, 101]⟩ :: none :: (namesIt ns ++ Sg ⟨#[46]⟩ :: none :: wrap 1 last (pt t)) := by cases t; rfl
end P
end
end Go.Proofs.YthiadenmljbdaaaGreatDoor

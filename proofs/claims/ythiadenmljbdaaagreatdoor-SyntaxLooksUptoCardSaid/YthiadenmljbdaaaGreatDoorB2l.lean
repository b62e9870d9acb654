/-
  l: the parts Num Mem Dec LexMath.
-/
import Derived.WalkKit
import Derived.Test.YthiadenmljbdaaaGreatDoorRows
import Derived.WalkSpells
import Derived.WalkLawsBesides
import Derived.Lib.Hide
namespace Go.Proofs.YthiadenmljbdaaaGreatDoor
section
namespace N
def nv : List Nat → Nat
 | [] => 0
 | x :: r => x + 4294967296 * nv r
def Lim (l : List Nat) : Prop := ∀ x ∈ l, x < 4294967296
def dg (l : List Nat) (k : Nat) : Nat := l.getD k 0
def Bare (l : List Nat) : Prop := l = [] ∨ dg l (l.length - 1) ≠ 0
def ofF : Nat → Nat → List Nat
 | 0, _ => []
 | f + 1, n => if n = 0 then [] else (n % 4294967296) :: ofF f (n / 4294967296)
def ofN (n : Nat) : List Nat := ofF n n
theorem nv_nil : nv [] = 0 := rfl
theorem nv_cons (x : Nat) (r : List Nat) : nv (x :: r) = x + 4294967296 * nv r := rfl
theorem dg_cons_succ (x : Nat) (r : List Nat) (k : Nat) : dg (x :: r) (k + 1) = dg r k := by simp [dg]
theorem dg_ge (l : List Nat) (k : Nat) (h : l.length ≤ k) : dg l k = 0 := by simp [dg, h]
theorem dg_get (l : List Nat) (k : Nat) (h : k < l.length) : dg l k = l[k] := by simp [dg, h]
theorem dg_lt {l : List Nat} (h : Lim l) (k : Nat) : dg l k < 4294967296 := by
 by_cases hk : k < l.length
 · rw [dg_get l k hk]; exact h _ (List.getElem_mem hk)
 · rw [dg_ge l k (by omega)]; omega
theorem Lim.tail {x : Nat} {r : List Nat} (h : Lim (x :: r)) : Lim r := fun y hy => h y (List.mem_cons_of_mem _ hy)
theorem Lim.head {x : Nat} {r : List Nat} (h : Lim (x :: r)) : x < 4294967296 := h x List.mem_cons_self
theorem Lim.cons {x : Nat} {r : List Nat} (hx : x < 4294967296) (h : Lim r) : Lim (x :: r) := fun y hy => by
 rcases List.mem_cons.1 hy with rfl | hy
 · exact hx
 · exact h y hy
theorem Lim.nil : Lim [] := fun _ h => by cases h
theorem Lim.app {a b : List Nat} (ha : Lim a) (hb : Lim b) : Lim (a ++ b) := fun x hx => by
 rcases List.mem_append.1 hx with h | h
 · exact ha x h
 · exact hb x h
theorem Lim.take {a : List Nat} (ha : Lim a) (k : Nat) : Lim (a.take k) := fun x hx => ha x (List.mem_of_mem_take hx)
theorem Lim.drop {a : List Nat} (ha : Lim a) (k : Nat) : Lim (a.drop k) := fun x hx => ha x (List.mem_of_mem_drop hx)
theorem Lim.rep (n : Nat) : Lim (List.replicate n 0) := fun x hx => by
 have := List.eq_of_mem_replicate hx; omega
theorem Lim.of_dg {l : List Nat} (h : ∀ k, k < l.length → dg l k < 4294967296) : Lim l := fun x hx => by
 obtain ⟨k, hk, rfl⟩ := List.getElem_of_mem hx
 rw [← dg_get l k hk]; exact h k hk
theorem ext_dg {a b : List Nat} (hl : a.length = b.length) (h : ∀ k, k < a.length → dg a k = dg b k) : a = b := by
 refine List.ext_getElem hl fun k h1 h2 => ?_
 rw [← dg_get a k h1, ← dg_get b k h2]; exact h k h1
theorem dg_take (a : List Nat) (n k : Nat) (h : k < n) : dg (a.take n) k = dg a k := by
 simp [dg, h]
theorem dg_drop (a : List Nat) (n k : Nat) : dg (a.drop n) k = dg a (n + k) := by
 simp [dg, List.getElem?_drop]
theorem dg_set (a : List Nat) (i k x : Nat) (h : i < a.length) : dg (a.set i x) k = if k = i then x else dg a k := by
 by_cases e : k = i
 · subst e; simp [dg, h]
 · simp [dg, e, Ne.symm e]
theorem dg_rep (n k : Nat) : dg (List.replicate n 0) k = 0 := by
 simp only [dg, List.getD, List.getElem?_replicate]; split <;> rfl
theorem Lim.set {a : List Nat} (ha : Lim a) (i x : Nat) (hx : x < 4294967296) : Lim (a.set i x) := fun y hy => by
 rcases List.mem_or_eq_of_mem_set hy with h | h
 · exact ha y h
 · subst h; exact hx
theorem nv_append (a b : List Nat) : nv (a ++ b) = nv a + 4294967296 ^ a.length * nv b := by
 induction a with
 | nil => simp [nv]
 | cons x a ih =>
  simp only [List.cons_append, nv_cons, ih, List.length_cons, Nat.pow_succ]
  rw [Nat.mul_add, Nat.mul_comm (4294967296 ^ a.length) 4294967296, Nat.mul_assoc]; omega
theorem nv_rep (n : Nat) : nv (List.replicate n 0) = 0 := by
 induction n with
 | zero => rfl
 | succ n ih => simp [List.replicate_succ, nv_cons, ih]
theorem nv_lt {l : List Nat} (h : Lim l) : nv l < 4294967296 ^ l.length := by
 induction l with
 | nil => simp [nv]
 | cons x l ih =>
  have h1 := ih h.tail
  have h2 := h.head
  simp only [nv_cons, List.length_cons, Nat.pow_succ]
  omega
theorem nv_snoc (l : List Nat) (x : Nat) : nv (l ++ [x]) = nv l + 4294967296 ^ l.length * x := by
 rw [nv_append]; simp [nv]
theorem take_succ_dg (l : List Nat) (k : Nat) (h : k < l.length) : l.take (k + 1) = l.take k ++ [dg l k] := by
 rw [List.take_succ_eq_append_getElem h, dg_get l k h]
theorem nv_take_succ (l : List Nat) (k : Nat) (h : k < l.length) : nv (l.take (k + 1)) = nv (l.take k) + 4294967296 ^ k * dg l k := by
 rw [take_succ_dg l k h, nv_snoc, List.length_take, Nat.min_eq_left (by omega)]
theorem nv_take_succ' (l : List Nat) (k : Nat) : nv (l.take (k + 1)) = nv (l.take k) + 4294967296 ^ k * dg l k := by
 by_cases h : k < l.length
 · exact nv_take_succ l k h
 · rw [dg_ge l k (by omega), List.take_of_length_le (by omega), List.take_of_length_le (by omega)]; omega
theorem nv_drop (l : List Nat) (k : Nat) (h : k < l.length) : nv (l.drop k) = dg l k + 4294967296 * nv (l.drop (k + 1)) := by
 rw [List.drop_eq_getElem_cons h, nv_cons, dg_get l k h]
theorem nv_split (l : List Nat) (k : Nat) : nv l = nv (l.take k) + 4294967296 ^ (min k l.length) * nv (l.drop k) := by
 have h := nv_append (l.take k) (l.drop k)
 rw [List.take_append_drop, List.length_take] at h
 exact h
theorem nv_inj {a b : List Nat} (hl : a.length = b.length) (ha : Lim a) (hb : Lim b) (h : nv a = nv b) : a = b := by
 induction a generalizing b with
 | nil => cases b with
  | nil => rfl
  | cons _ _ => simp at hl
 | cons x a ih => cases b with
  | nil => simp at hl
  | cons y b =>
   have h1 := ha.head
   have h2 := hb.head
   simp only [nv_cons] at h
   have e1 : x = y := by omega
   have e2 : nv a = nv b := by omega
   rw [e1, ih (by simpa using hl) ha.tail hb.tail e2]
theorem nv_ge {l : List Nat} (h : Bare l) (hne : l ≠ []) : 4294967296 ^ (l.length - 1) ≤ nv l := by
 rcases h with h | h
 · exact absurd h hne
 · have hl : 0 < l.length := List.length_pos_iff.2 hne
   have e := nv_take_succ l (l.length - 1) (by omega)
   rw [show l.length - 1 + 1 = l.length from by omega, List.take_length] at e
   have := Nat.le_mul_of_pos_right (4294967296 ^ (l.length - 1)) (Nat.pos_of_ne_zero h)
   omega
theorem bare_len_lt {a b : List Nat} (ha : Lim a) (hb : Bare b) (h : a.length < b.length) : nv a < nv b := by
 have h1 := nv_lt ha
 have h2 := nv_ge hb (by intro e; simp [e] at h)
 have h3 : 4294967296 ^ a.length ≤ 4294967296 ^ (b.length - 1) := Nat.pow_le_pow_right (by omega) (by omega)
 omega
theorem bare_inj {a b : List Nat} (ha : Lim a) (hb : Lim b) (ba : Bare a) (bb : Bare b) (h : nv a = nv b) : a = b := by
 refine nv_inj ?_ ha hb h
 rcases Nat.lt_trichotomy a.length b.length with hl | hl | hl
 · have := bare_len_lt ha bb hl; omega
 · exact hl
 · have := bare_len_lt hb ba hl; omega
theorem ofF_spec (f : Nat) : ∀ n, n ≤ f → nv (ofF f n) = n ∧ Lim (ofF f n) ∧ Bare (ofF f n) := by
 induction f with
 | zero => intro n h; obtain rfl : n = 0 := by omega
           exact ⟨rfl, Lim.nil, .inl rfl⟩
 | succ f ih =>
  intro n h
  unfold ofF
  split
  · next h0 => subst h0; exact ⟨rfl, Lim.nil, .inl rfl⟩
  ·
   next h0 =>
   obtain ⟨h1, h2, h3⟩ := ih (n / 4294967296) (by omega)
   refine ⟨by rw [nv_cons, h1]; omega, Lim.cons (Nat.mod_lt _ (by omega)) h2, .inr ?_⟩
   rcases h3 with h3 | h3
   · rw [h3] at h1 ⊢
     simp only [nv_nil] at h1
     simp only [List.length_cons, List.length_nil, dg, List.getD]
     simp
     omega
   · have hne : ofF f (n / 4294967296) ≠ [] := by
      intro e; rw [e] at h3; exact h3 rfl
     have hl : 0 < (ofF f (n / 4294967296)).length := List.length_pos_iff.2 hne
     simp only [List.length_cons]
     rw [show (ofF f (n / 4294967296)).length + 1 - 1 = ((ofF f (n / 4294967296)).length - 1) + 1 from by omega, dg_cons_succ]
     exact h3
theorem nv_ofN (n : Nat) : nv (ofN n) = n := (ofF_spec n n (Nat.le_refl _)).1
theorem lim_ofN (n : Nat) : Lim (ofN n) := (ofF_spec n n (Nat.le_refl _)).2.1
theorem bare_ofN (n : Nat) : Bare (ofN n) := (ofF_spec n n (Nat.le_refl _)).2.2
theorem ofN_zero : ofN 0 = [] := rfl
theorem ofN_nv {l : List Nat} (hl : Lim l) (hb : Bare l) : ofN (nv l) = l := bare_inj (lim_ofN _) hl (bare_ofN _) hb (nv_ofN _)
theorem ofN_eq_nil {n : Nat} : ofN n = [] ↔ n = 0 := ⟨fun h => by rw [← nv_ofN n, h]; rfl, fun h => by rw [h]; rfl⟩
theorem ofN_length_le {n k : Nat} (h : n < 4294967296 ^ k) : (ofN n).length ≤ k := by
 rcases Nat.lt_or_ge k (ofN n).length with hk | hk
 · have h1 := nv_ge (bare_ofN n) (by intro e; simp [e] at hk)
   rw [nv_ofN] at h1
   have h3 : 4294967296 ^ k ≤ 4294967296 ^ ((ofN n).length - 1) := Nat.pow_le_pow_right (by omega) (by omega)
   omega
 · exact hk
theorem ofN_nv_length {l : List Nat} (h : Lim l) : (ofN (nv l)).length ≤ l.length := ofN_length_le (nv_lt h)
theorem lt_pow_ofN (n : Nat) : n < 4294967296 ^ (ofN n).length := by
 have := nv_lt (lim_ofN n); rwa [nv_ofN] at this
theorem ofN_length_mono {a b : Nat} (h : a ≤ b) : (ofN a).length ≤ (ofN b).length :=
 ofN_length_le (Nat.lt_of_le_of_lt h (lt_pow_ofN b))
theorem take_bare {l : List Nat} (hl : Lim l) {n : Nat} (hn : n ≤ l.length) (hz : ∀ k, n ≤ k → k < l.length → dg l k = 0) (hb : n = 0 ∨ dg l (n - 1) ≠ 0) : l.take n = ofN (nv l) := by
 have hz' : l.drop n = List.replicate (l.length - n) 0 := by
  refine ext_dg (by simp) fun k hk => ?_
  rw [dg_drop, dg_rep]
  exact hz (n + k) (by omega) (by simp at hk; omega)
 have hv : nv l = nv (l.take n) := by
  rw [nv_split l n, hz', nv_rep]; omega
 rw [hv]
 refine (ofN_nv (hl.take n) ?_).symm
 rcases hb with hb | hb
 · subst hb; exact .inl (by simp)
 · by_cases h0 : n = 0
   · subst h0; exact .inl (by simp)
   · refine .inr ?_
     rw [List.length_take, Nat.min_eq_left hn, dg_take _ _ _ (by omega)]
     exact hb
theorem nv_len_le {l : List Nat} (hl : Lim l) : (ofN (nv l)).length ≤ l.length := ofN_nv_length hl
theorem bare_len {l : List Nat} (hl : Lim l) {n : Nat} (hn : n ≤ l.length) (hz : ∀ k, n ≤ k → k < l.length → dg l k = 0) (hb : n = 0 ∨ dg l (n - 1) ≠ 0) : (ofN (nv l)).length = n := by
 rw [← take_bare hl hn hz hb, List.length_take, Nat.min_eq_left hn]
def cmpN (a b : Nat) : Int := if a < b then -1 else if b < a then 1 else 0
theorem cmpN_lt {a b : Nat} (h : a < b) : cmpN a b = -1 := by simp [cmpN, h]
theorem cmpN_gt {a b : Nat} (h : b < a) : cmpN a b = 1 := by
 have : ¬ a < b := by omega
 simp [cmpN, h, this]
theorem cmpN_eq (a : Nat) : cmpN a a = 0 := by simp [cmpN]
theorem cmpN_cases (a b : Nat) : (a < b ∧ cmpN a b = -1) ∨ (a = b ∧ cmpN a b = 0) ∨ (b < a ∧ cmpN a b = 1) := by
 rcases Nat.lt_trichotomy a b with h | h | h
 · exact .inl ⟨h, cmpN_lt h⟩
 · subst h; exact .inr (.inl ⟨rfl, cmpN_eq a⟩)
 · exact .inr (.inr ⟨h, cmpN_gt h⟩)
theorem dg_hi_lt {a b : List Nat} (hl : a.length = b.length) (ha : Lim a) {i : Nat} (hi : i < a.length) (he : ∀ k, i < k → k < a.length → dg a k = dg b k) (h : dg a i < dg b i) : nv a < nv b := by
 have hd : a.drop (i + 1) = b.drop (i + 1) := ext_dg (by simp [hl]) fun k hk => by
  rw [dg_drop, dg_drop]; exact he _ (by omega) (by simp at hk; omega)
 have h1 := nv_split a (i + 1)
 have h2 := nv_split b (i + 1)
 rw [← hd, ← hl] at h2
 have h3 := nv_take_succ a i hi
 have h4 := nv_take_succ b i (by omega)
 have h5 := nv_lt (ha.take i)
 rw [List.length_take, Nat.min_eq_left (by omega)] at h5
 have h6 : 4294967296 ^ i * dg a i + 4294967296 ^ i ≤ 4294967296 ^ i * dg b i := by
  have := Nat.mul_le_mul_left (4294967296 ^ i) (show dg a i + 1 ≤ dg b i from h)
  rwa [Nat.mul_add, Nat.mul_one] at this
 omega
theorem take_set_succ (l : List Nat) (k x : Nat) (h : k < l.length) : (l.set k x).take (k + 1) = l.take k ++ [x] := by
 rw [take_succ_dg _ k (by simpa using h), dg_set _ _ _ _ h, if_pos rfl, List.take_set_of_le (Nat.le_refl k)]
theorem nv_of_zero {l : List Nat} {n : Nat} (h : ∀ j, n ≤ j → dg l j = 0) : nv l = nv (l.take n) := by
 rw [nv_split l n]
 have : l.drop n = List.replicate (l.length - n) 0 := ext_dg (by simp) fun k _ => by
  rw [dg_drop, dg_rep]; exact h _ (by omega)
 rw [this, nv_rep]; omega
def divQ (b : Nat) : List Nat → List Nat
 | [] => []
 | x :: r => ((nv r % b) * 4294967296 + x) / b :: divQ b r
theorem divQ_nv {b : Nat} (hb : 0 < b) (l : List Nat) : nv (divQ b l) = nv l / b := by
 induction l with
 | nil => simp [divQ, nv]
 | cons x l ih =>
  simp only [divQ, nv_cons, ih]
  have h1 := Nat.div_add_mod (nv l) b
  have e : x + 4294967296 * nv l = ((nv l % b) * 4294967296 + x) + b * (4294967296 * (nv l / b)) := by
   have : b * (4294967296 * (nv l / b)) = 4294967296 * (b * (nv l / b)) := Nat.mul_left_comm _ _ _
   omega
  rw [e, Nat.add_mul_div_left _ _ hb]
theorem divQ_mod (b x : Nat) (l : List Nat) : ((nv l % b) * 4294967296 + x) % b = nv (x :: l) % b := by
 rw [nv_cons, Nat.add_comm x, Nat.mul_comm 4294967296, Nat.add_mod, Nat.mul_mod, Nat.mod_mod, ← Nat.mul_mod, ← Nat.add_mod]
def divS (b : Nat) (a : List Nat) (i : Nat) : List Nat := List.replicate i 0 ++ divQ b (a.drop i)
theorem divS_step (b : Nat) (a : List Nat) (j : Nat) (h : j < a.length) : (divS b a (j + 1)).set j (((nv (a.drop (j + 1)) % b) * 4294967296 + dg a j) / b) = divS b a j := by
 unfold divS
 rw [List.drop_eq_getElem_cons h, ← dg_get a j h, divQ, List.replicate_succ', List.append_assoc, List.set_append_right _ _ (by simp)]
 simp
theorem divS_all (b : Nat) (a : List Nat) : divS b a 0 = divQ b a := by simp [divS]
theorem divS_none (b : Nat) (a : List Nat) : divS b a a.length = List.replicate a.length 0 := by simp [divS, divQ]
end N
end
section
open Go.RowKit
theorem ret_i {k : IntKind} {a b : Int} (h : a = b) : Ending.returned (.int k a) = .returned (.int k b) := by rw [h]
theorem run_append_src {P : Program} (w : World) (base : Nat) (t ty e : TypeId) (i : TypeInfo) (z : Value) (size bytes : Nat) (ht : P.underlying t = some (.slice e)) (hi : P.info? e = some i) (hz : i.zero = some z)
    (hsize : i.size = size) (hby : i.bytes = bytes) (hzs : z.cells.size = size) (hsz : 0 < size) (v : Value) (n : Nat) (xs : List Value) (hown : w.ownsRow base e size v n xs)
    (A : Option Addr) (m c : Nat) (news : List Value) (hl : news.length = m * size) (hnews : 0 < m → ∃ ad, A = some ad ∧ ∀ j u, news[j]? = some u → w.cell? (ad.add j) = some u) (h1 : ∀ u ∈ news, u.oneCell' = true)
    (h63 : n + m ≤ maxLen) (hbytes : (n + m) * bytes ≤ 140737488355328) (hbase : base ≤ w.heap.size) :
    ∃ v' w', (Builtin.append_ #[t, t] ty #[v, .slice A m c]).run P w = .ok v' w' ∧ w'.ownsRow base e size v' (n + m) (xs ++ news) ∧ w.grownBy w' v.ownBlock ∧ (v' = .slice none 0 0 ↔ v = .slice none 0 0 ∧ m = 0) := by
  by_cases hm : m = 0
  ·
   subst hm
   have hn : news = [] := List.eq_nil_of_length_eq_zero (by simpa using hl)
   subst hn
   cases A with
   | some ad => exact run_append_own w base t ty e i z size bytes ht hi hz hsize hby hzs hsz v n xs hown ad 0 c [] (by simp) (fun j u hu => by simp at hu) h1 h63 hbytes hbase
   | none =>
    refine ⟨v, w, ?_, by simpa using hown, World.grownBy.refl _ _, by simp⟩
    rcases hown.2 with ⟨rfl, rfl⟩ | ⟨g, cap, cur, rfl, _, _, hnc, _⟩
    · simp [Builtin.append_, run_underlying ht, sizeOf, typeInfo, hi, Builtin.lenOf, Builtin.firstCells]
    · simp [Builtin.append_, run_underlying ht, sizeOf, typeInfo, hi, Builtin.lenOf, Builtin.firstCells, hnc, storeCells]
  · obtain ⟨ad, rfl, hc⟩ := hnews (by omega)
    exact run_append_own w base t ty e i z size bytes ht hi hz hsize hby hzs hsz v n xs hown ad m c news hl hc h1 h63 hbytes hbase
theorem wpList_append_src {P : Program} (w : World) {ops : Array Oper} {rest : List Oper} {o : Oper} {a : Act} {Q : Exit → Act → World → Prop} (hgd : o.guard = none) (s x : Operand) (t : TypeId)
    (ho : o.op = .call { callee := .builtin .append, args := #[s, x], argTypes := #[t, t] })
    (base : Nat) (e : TypeId) (i : TypeInfo) (z : Value) (size bytes : Nat) (ht : P.underlying t = some (.slice e)) (hi : P.info? e = some i) (hz : i.zero = some z)
    (hsize : i.size = size) (hby : i.bytes = bytes) (hzs : z.cells.size = size) (hsz : 0 < size) (v : Value) (n : Nat) (xs : List Value) (hs : a.eval s = v) (hown : w.ownsRow base e size v n xs)
    (A : Option Addr) (m c : Nat) (news : List Value) (hx : a.eval x = .slice A m c) (hl : news.length = m * size) (hnews : 0 < m → ∃ ad, A = some ad ∧ ∀ j u, news[j]? = some u → w.cell? (ad.add j) = some u)
    (h1 : ∀ u ∈ news, u.oneCell' = true) (h63 : n + m ≤ maxLen) (hbytes : (n + m) * bytes ≤ 140737488355328) (hbase : base ≤ w.heap.size)
    (h : ∀ v' w', w'.ownsRow base e size v' (n + m) (xs ++ news) → w.grownBy w' v.ownBlock → (v' = .slice none 0 0 ↔ v = .slice none 0 0 ∧ m = 0) → wpList P ops Q rest (a.put o.dst v') w') : wpList P ops Q (o :: rest) a w := by
  refine wpList_plain hgd fun K hK => ?_
  obtain ⟨v', w', hr, h2, h3, h4⟩ := run_append_src (P := P) w base t o.type e i z size bytes ht hi hz hsize hby hzs hsz v n xs hown A m c news hl hnews h1 h63 hbytes hbase
  unfold Oper.wp execOp
  simp only [ho, resolve, invoke, builtin, Sem.run_bind, Sem.run_pure, Result.andThen_ok, List.map_toArray, List.map_cons, List.map_nil, hs, hx, hr]
  exact hK _ _ (h v' w' h2 h3 h4)
theorem toList_made (n : Nat) : (madeCells (Value.cells (.int .u32 0)) (n * 1)).toList = List.replicate n (.int .u32 0) := by
 rw [Nat.mul_one]; exact toList_madeCells_one _ _
structure Sl (w : World) (A : Option Addr) (n c : Nat) (l : List Nat) : Prop where
 len : l.length = n
 cap : n ≤ c
 lim : N.Lim l
 cells : 0 < n → ∃ b o, A = some ⟨b, o, none⟩ ∧ ∀ k, k < n → w.cell? ⟨b, o + k, none⟩ = some (.int .u32 (N.dg l k))
def lv (l : List Nat) : List Value := l.map fun x => .int .u32 (x : Nat)
theorem lv_length (l : List Nat) : (lv l).length = l.length := by simp [lv]
theorem lv_get (l : List Nat) (k : Nat) (h : k < l.length) : (lv l)[k]? = some (.int .u32 (N.dg l k)) := by
 rw [N.dg_get l k h]; simp [lv, h]
def Full (w : World) (g c : Nat) : Prop := ∀ k, k < c → ∃ z : Int, w.cell? ⟨g, k, none⟩ = some (.int .u32 z)
theorem Full.block {w w' : World} {g c : Nat} (h : Full w g c) (e : w'.heap[g]? = w.heap[g]?) : Full w' g c := fun k hk => by
 obtain ⟨z, hz⟩ := h k hk
 exact ⟨z, (World.cell?_of_block (a := ⟨g, k, none⟩) e).trans hz⟩
theorem Full.set {w : World} {g c : Nat} (h : Full w g c) (j : Nat) (z : Int) : Full (w.setCell ⟨g, j, none⟩ (.int .u32 z)) g c := fun k hk => by
 obtain ⟨y, hy⟩ := h k hk
 by_cases e : k = j
 · subst e
   exact ⟨z, World.cell?_setCell_same _ _ _ hy⟩
 · exact ⟨y, (World.cell?_setCell_other _ _ _ _ (fun h => e (by injection h with _ h; exact h.symm))).trans hy⟩
theorem full_of_ints {w : World} {g c : Nat} {cs : Array Value} {t : TypeId} {fr : Nat × Nat} (hg : w.heap[g]? = some (.cells cs t fr)) (h : ∀ u ∈ cs.toList, ∃ z : Int, u = .int .u32 z) (hc : c ≤ cs.size) : Full w g c := fun k hk => by
 obtain ⟨z, hz⟩ := h (cs[k]'(by omega)) (by simp)
 exact ⟨z, by rw [cell_of_row _ _ _ _ _ _ hg, Array.getElem?_eq_getElem (by omega), hz]⟩
theorem ints_of_full {w : World} {g c : Nat} {cs : Array Value} {t : TypeId} {fr : Nat × Nat} (hg : w.heap[g]? = some (.cells cs t fr)) (h : Full w g c) (hc : cs.size ≤ c) : ∀ u ∈ cs.toList, ∃ z : Int, u = .int .u32 z := fun u hu => by
 obtain ⟨k, hk, e⟩ := List.mem_iff_getElem.1 hu
 have hk' : k < cs.size := by simpa using hk
 obtain ⟨z, hz⟩ := h k (by omega)
 rw [cell_of_row _ _ _ _ _ _ hg, Array.getElem?_eq_getElem hk'] at hz
 exact ⟨z, by rw [← e]; simpa using hz⟩
theorem ints_lv (l : List Nat) : ∀ u ∈ lv l, ∃ z : Int, u = .int .u32 z := fun u hu => by
 simp only [lv, List.mem_map] at hu
 obtain ⟨x, _, e⟩ := hu
 exact ⟨_, e.symm⟩
theorem full_of_own {w : World} {base g n : Nat} {l : List Nat} (h : w.ownsRow base 69 1 (.slice (some ⟨g, 0, none⟩) n n) n (lv l)) : Full w g n := fun k hk => by
 have hl := h.1
 rw [lv_length] at hl
 exact ⟨_, (h.cellAt k (by omega)).trans (lv_get l k (by omega))⟩
structure Own (w : World) (base g n c : Nat) (l : List Nat) : Prop where
 own : w.ownsRow base 69 1 (.slice (some ⟨g, 0, none⟩) n c) n (lv l)
 lim : N.Lim l
 full : Full w g c
section
variable {w w' : World} {base g n c : Nat} {A : Option Addr} {l : List Nat}
theorem Sl.keep (h : Sl w A n c l) (hk : ∀ p v, w.cell? p = some v → w'.cell? p = some v) : Sl w' A n c l :=
 ⟨h.len, h.cap, h.lim, fun hn => by
   obtain ⟨b, o, e, hc⟩ := h.cells hn
   exact ⟨b, o, e, fun k hk' => hk _ _ (hc k hk')⟩⟩
theorem Sl.below (h : Sl w A n c l) (hb : Below w.heap.size w w') : Sl w' A n c l :=
 h.keep fun p _ hp => (hb.cell (World.block_lt_of_cell? w p hp)).trans hp
theorem Sl.take (h : Sl w A n c l) {m : Nat} (hm : m ≤ n) : Sl w A m c (l.take m) :=
 ⟨by rw [List.length_take, h.len, Nat.min_eq_left hm], Nat.le_trans hm h.cap, h.lim.take m, fun h0 => by
   obtain ⟨b, o, e, hc⟩ := h.cells (by omega)
   exact ⟨b, o, e, fun k hk => by rw [N.dg_take _ _ _ hk]; exact hc k (by omega)⟩⟩
theorem Sl.drew (h : Sl w A n c l) : Sl w.drew A n c l := ⟨h.len, h.cap, h.lim, h.cells⟩
theorem Sl.drewN (h : Sl w A n c l) (k : Nat) : Sl (w.drewN k) A n c l := ⟨h.len, h.cap, h.lim, h.cells⟩
theorem Own.drew (h : Own w base g n c l) : Own w.drew base g n c l := ⟨h.own, h.lim, h.full⟩
theorem Own.drewN (h : Own w base g n c l) (k : Nat) : Own (w.drewN k) base g n c l := ⟨h.own, h.lim, h.full⟩
theorem Sl.nil (w : World) (A : Option Addr) (c : Nat) : Sl w A 0 c [] := ⟨rfl, Nat.zero_le _, N.Lim.nil, fun h => absurd h (by omega)⟩
theorem Sl.bare (h : Sl w A n c l) : Sl w A (N.ofN (N.nv l)).length (N.ofN (N.nv l)).length (N.ofN (N.nv l)) :=
 ⟨rfl, Nat.le_refl _, N.lim_ofN _, fun hn => by
   have hl := N.nv_len_le h.lim
   have hle := h.len
   obtain ⟨b, o, e, hc⟩ := h.cells (by omega)
   refine ⟨b, o, e, fun k hk => ?_⟩
   rw [hc k (by omega)]
   have : N.dg l k = N.dg (N.ofN (N.nv l)) k := by
    have ht : l.take (N.ofN (N.nv l)).length = N.ofN (N.nv l) := by
     have hs := N.nv_split l (N.ofN (N.nv l)).length
     rw [Nat.min_eq_left hl] at hs
     have h0 : N.nv (l.drop (N.ofN (N.nv l)).length) = 0 := by
      rcases Nat.eq_zero_or_pos (N.nv (l.drop (N.ofN (N.nv l)).length)) with h0 | h0
      · exact h0
      · have h1 := N.lt_pow_ofN (N.nv l)
        have h2 := Nat.le_mul_of_pos_right (4294967296 ^ (N.ofN (N.nv l)).length) h0
        omega
     rw [h0, Nat.mul_zero, Nat.add_zero] at hs
     exact N.nv_inj (by rw [List.length_take, Nat.min_eq_left hl]) (h.lim.take _) (N.lim_ofN _) (by rw [N.nv_ofN]; exact hs.symm)
    rw [← ht, N.dg_take _ _ _ hk]
   rw [this]⟩
theorem lv_oneCell (l : List Nat) : ∀ u ∈ lv l, u.oneCell' = true := by
 intro u hu
 obtain ⟨_, _, rfl⟩ := List.mem_map.1 hu
 rfl
theorem Sl.news (h : Sl w A n c l) : 0 < n → ∃ ad, A = some ad ∧ ∀ j u, (lv l)[j]? = some u → w.cell? (ad.add j) = some u := fun hn => by
 obtain ⟨b, o, e, hc⟩ := h.cells hn
 refine ⟨_, e, fun j u hu => ?_⟩
 have hj : j < l.length := by have := (List.getElem?_eq_some_iff.1 hu).1; rwa [lv_length] at this
 rw [lv_get l j hj] at hu
 rw [Addr.add_lit, hc j (by have := h.len; omega)]
 exact hu
theorem Sl.lit (w : World) (l : List Nat) (h : N.Lim l) : Sl (w.alloc (.cells (lv l).toArray 69)) (some ⟨w.heap.size, 0, none⟩) l.length l.length l :=
 ⟨rfl, Nat.le_refl _, h, fun _ => ⟨_, 0, rfl, fun k hk => by
   rw [cell_of_row _ _ _ _ _ _ (heap_alloc_new w _), Nat.zero_add, List.getElem?_toArray, lv_get l k hk]⟩⟩
theorem Own.len (h : Own w base g n c l) : l.length = n := by have := h.own.1; rw [lv_length] at this; omega
theorem Own.sl (h : Own w base g n c l) : Sl w (some ⟨g, 0, none⟩) n c l := by
 have hlen := h.len
 refine ⟨hlen, ?_, h.lim, fun _ => ⟨g, 0, rfl, fun k hk => ?_⟩⟩
 · rcases h.own.2 with ⟨e, _⟩ | ⟨g', cap, cur, e, _, _, hle, _⟩
   · cases e
   · injection e with _ _ e2; omega
 · rw [Nat.zero_add, h.own.cellAt k (by omega), lv_get l k (by omega)]
theorem Own.base_le (h : Own w base g n c l) : base ≤ g ∧ g < w.heap.size := h.own.lt g rfl
theorem Own.below (h : Own w base g n c l) (hb : Below w.heap.size w w') : Own w' base g n c l := by
 refine ⟨⟨h.own.1, ?_⟩, h.lim, h.full.block (hb.block g h.base_le.2)⟩
 rcases h.own.2 with ⟨e, _⟩ | ⟨g', cap, cur, e, hg, hh, rest⟩
 · cases e
 · refine .inr ⟨g', cap, cur, e, hg, ?_, rest⟩
   have hlt : g' < w.heap.size := (Array.getElem?_eq_some_iff.1 hh).1
   rw [hb.block g' hlt]; exact hh
theorem Own.set (h : Own w base g n c l) (k x : Nat) (hx : x < 4294967296) : Own (w.setCell ⟨g, k, none⟩ (.int .u32 (x : Nat))) base g n c (l.set k x) := by
 refine ⟨?_, h.lim.set k x hx, h.full.set _ _⟩
 have e : lv (l.set k x) = (lv l).set k (.int .u32 (x : Nat)) := by simp [lv, List.map_set]
 rw [e]; exact (h.own.stored k _).1
theorem Own.set' (h : Own w base g n c l) (k x : Nat) (hx : x < 4294967296) (v : Int) (hv : v = (x : Nat)) : Own (w.setCell ⟨g, k, none⟩ (.int .u32 v)) base g n c (l.set k x) := by
 subst hv; exact h.set k x hx
theorem Own.cell (h : Own w base g n c l) (k : Nat) (hk : k < n) : w.cell? ⟨g, k, none⟩ = some (.int .u32 (N.dg l k)) := by
 rw [h.own.cellAt k (by omega), lv_get l k (by have := h.len; omega)]
theorem Own.free (h : Own w base g n c l) (k : Nat) : w.frozen? ⟨g, k, none⟩ = false := h.own.frozenAt k
theorem gb_set {a w : World} {g : Nat} (h : a.grownBy w (some g)) (k : Nat) (u : Value) : a.grownBy (w.setCell ⟨g, k, none⟩ u) (some g) :=
 ⟨h.os, h.tape, h.output, by simpa [World.setCell] using h.size, fun i hi hne => (Below.heap_setCell w ⟨g, k, none⟩ u i (fun e => hne (by rw [e]))).trans (h.block i hi hne)⟩
theorem gb_of_below {a w : World} (h : Below a.heap.size a w) (row : Option Nat) : a.grownBy w row := ⟨h.os, h.tape, h.output, h.size, fun i hi _ => h.block i hi⟩
theorem Own.grown (h : Own w base g n c l) {g' : Nat} (hg : w.grownBy w' (some g')) (hne : g ≠ g') : Own w' base g n c l :=
 ⟨h.own.kept hg (.inr (by simp [Value.ownBlock]; exact hne)), h.lim, h.full.block (hg.block g h.base_le.2 (by intro e; injection e with e; exact hne e))⟩
theorem Own.far (h : Own w base g n c l) {g' : Nat} (hne : g ≠ g') (k : Nat) (u : Value) : Own (w.setCell ⟨g', k, none⟩ u) base g n c l :=
 h.grown (gb_set (World.grownBy.refl _ _) k u) hne
def Off (A : Option Addr) (g : Nat) : Prop := ∀ ad, A = some ad → ad.block ≠ g
theorem Sl.grown (h : Sl w A n c l) {g : Nat} (hg : w.grownBy w' (some g)) (ho : Off A g) : Sl w' A n c l :=
 ⟨h.len, h.cap, h.lim, fun hn => by
   obtain ⟨b, o, e, hc⟩ := h.cells hn
   refine ⟨b, o, e, fun k hk => ?_⟩
   exact hg.cell (hc k hk) (fun e2 => ho _ e (by injection e2))⟩
theorem Sl.off (h : Sl w A n c l) (hn : 0 < n) {g : Nat} (hg : w.heap.size ≤ g) : Off A g := fun ad e => by
 obtain ⟨b, o, e2, hc⟩ := h.cells hn
 have := World.block_lt_of_cell? w _ (hc 0 hn)
 rw [e2] at e; injection e with e; subst e
 simp at this ⊢; omega
theorem Own.mono (h : Own w base g n c l) {base' : Nat} (hb : base' ≤ base) : Own w base' g n c l := by
 refine ⟨⟨h.own.1, ?_⟩, h.lim, h.full⟩
 rcases h.own.2 with ⟨e, _⟩ | ⟨g', cap, cur, e, hg, rest⟩
 · cases e
 · exact .inr ⟨g', cap, cur, e, Nat.le_trans hb hg, rest⟩
end
theorem Own.empty (w : World) : Own (w.alloc (.cells #[] 69)) w.heap.size w.heap.size 0 0 [] := ⟨World.ownsRow_made w #[] 0 (Nat.le_refl _) (by unfold maxLen; omega) rfl, N.Lim.nil, fun k hk => absurd hk (by omega)⟩
theorem wpList_make_lim {P : Program} (w : World) {ops : Array Oper} {rest : List Oper} {o : Oper} {a : Act} {Q : Exit → Act → World → Prop}
    (hg : o.guard = none) (l c : Operand) (t : TypeId) (hop : o.op = Op.makeSlice t l c) (i : TypeInfo) (h1 : P.underlying t = some (.slice 69)) (h2 : P.info? 69 = some i) (h3 : i.zero = some (.int .u32 0)) (h4 : i.size = 1) (h5 : i.bytes = 4)
    (kl kc : IntKind) (L C : Int) (n : Nat) (hl : a.eval l = .int kl L) (hc : a.eval c = .int kc C) (hL : L = (n : Int)) (hC : C = (n : Int)) (b2 : n ≤ 70368744177664)
    (hK : ∀ w', Own w' w.heap.size w.heap.size n n (List.replicate n 0) → Below w.heap.size w w' → wpList P ops Q rest (a.put o.dst (.slice (some ⟨w.heap.size, 0, none⟩) n n)) w') :
    wpList P ops Q (o :: rest) a w := by
  refine wpList_make_full w hg l c t hop w.heap.size 69 i (.int .u32 0) 1 h1 h2 h3 h4 kl kc L C n hl hc hL hC (by rw [h5]; omega) (by unfold maxLen; omega) (Nat.le_refl _) fun w' h6 h7 => ?_
  have e : lv (List.replicate n 0) = List.replicate n (.int .u32 0) := by simp [lv]
  rw [toList_made, ← e] at h6
  refine hK w' ⟨h6, N.Lim.rep n, full_of_own h6⟩ ⟨h7.os, h7.tape, h7.output, h7.size, fun k hk => h7.block k hk (by simp)⟩
theorem wpList_append_lim {P : Program} (w : World) {ops : Array Oper} {rest : List Oper} {o : Oper} {a : Act} {Q : Exit → Act → World → Prop} (hgd : o.guard = none) (s x : Operand) (t : TypeId)
    (ho : o.op = .call { callee := .builtin .append, args := #[s, x], argTypes := #[t, t] })
    (base : Nat) (i : TypeInfo) (ht : P.underlying t = some (.slice 69)) (hi : P.info? 69 = some i) (hz : i.zero = some (.int .u32 0)) (hsize : i.size = 1) (hby : i.bytes = 4)
    (g0 c0 n : Nat) (l : List Nat) (hs : a.eval s = .slice (some ⟨g0, 0, none⟩) n c0) (hown : Own w base g0 n c0 l)
    (A : Option Addr) (m c : Nat) (r : List Nat) (hx : a.eval x = .slice A m c) (hr : r.length = m) (hlim : N.Lim r) (hnews : 0 < m → ∃ ad, A = some ad ∧ ∀ j u, (lv r)[j]? = some u → w.cell? (ad.add j) = some u)
    (hb : n + m ≤ 35184372088832) (hbase : base ≤ w.heap.size) (k : Nat) (hk : n + m = k) (ys : List Nat) (hys : l ++ r = ys)
    (h : ∀ g cap w', Own w' base g k cap ys → w.grownBy w' (some g0) → wpList P ops Q rest (a.put o.dst (.slice (some ⟨g, 0, none⟩) k cap)) w') : wpList P ops Q (o :: rest) a w := by
  subst hk
  subst hys
  refine wpList_plain hgd fun K hK => ?_
  have hlr : (lv r).length = m := by rw [lv_length, hr]
  have hbytes : (n + m) * 4 ≤ 140737488355328 := by omega
  obtain ⟨v', w', hrun, h2, h3, h4⟩ := run_append_src (P := P) w base t o.type 69 i (.int .u32 0) 1 4 ht hi hz hsize hby rfl (by omega) _ n (lv l) hown.own A m c (lv r) (by omega) hnews (lv_oneCell _) (by unfold maxLen; omega) hbytes hbase
  have e2 : lv l ++ lv r = lv (l ++ r) := by simp [lv]
  rw [e2] at h2
  rcases h2.2 with ⟨hv0, _⟩ | ⟨g, cap, cur, rfl, hg1, hg2, hg3, hg4, hg5, hg6⟩
  · have := (h4.1 hv0).1
    cases this
  have hfull : Full w' g cap := by
   obtain ⟨ocap, ocur, oe, og2, og3, og5⟩ : ∃ cap cur, c0 = cap ∧ w.heap[g0]? = some (.cells cur 69 (0, 0)) ∧ n ≤ cap ∧ cur.size = cap * 1 := by
    rcases hown.own.2 with ⟨e, _⟩ | ⟨g', cap', cur', e, a1, a2, a3, a4, a5, a6⟩
    · cases e
    · injection e with e1 e2 e3
      injection e1 with e1; injection e1 with e1
      subst e1; subst e3
      exact ⟨_, cur', rfl, a2, a3, a5⟩
   subst oe
   have hints := ints_of_full og2 hown.full (by omega)
   by_cases hm : m = 0
   ·
    subst hm
    have e0 : r = [] := List.eq_nil_of_length_eq_zero hr
    subst e0
    cases A with
    | none =>
     have hrn : (Builtin.append_ #[t, t] o.type #[.slice (some ⟨g0, 0, none⟩) n c0, .slice none 0 c]).run P w = .ok (.slice (some ⟨g0, 0, none⟩) n c0) w := by
      simp [Builtin.append_, run_underlying ht, sizeOf, typeInfo, hi, Builtin.lenOf, Builtin.firstCells, og3, storeCells]
     rw [hrn] at hrun
     injection hrun with r1 r2
     injection r1 with r1 _ r3
     injection r1 with r1; injection r1 with r1
     subst r2; subst r3; subst r1
     exact hown.full
    | some ad =>
     have hrn := run_append_room (P := P) w t o.type 69 i ht hi g0 n c0 ocur og2 ad 0 c [] (by simp) (by simp) (by simp) og3 (by rw [hsize, og5]; simp; omega)
     have hrun2 : (Builtin.append_ #[t, t] o.type #[.slice (some ⟨g0, 0, none⟩) n c0, .slice (some ad) 0 c]).run P w = .ok (.slice (some ⟨g, 0, none⟩) (n + 0) cap) w' := hrun
     rw [hrn] at hrun2
     injection hrun2 with r1 r2
     injection r1 with r1 _ r3
     injection r1 with r1; injection r1 with r1
     subst r3; subst r1
     rw [← r2]
     refine full_of_ints (setRow_heap _ _ _ _ _ _ og2) (fun u hu => ?_) (by simp; omega)
     simp only [List.append_nil, List.mem_append] at hu
     exact hints u (by rcases hu with hu | hu; exact List.mem_of_mem_take hu; exact List.mem_of_mem_drop hu)
   ·
    obtain ⟨ad, rfl, hcl⟩ := hnews (by omega)
    by_cases hroom : n + m ≤ c0
    ·
     have hrn := run_append_room (P := P) w t o.type 69 i ht hi g0 n c0 ocur og2 ad m c (lv r) (by rw [hsize]; omega) hcl (lv_oneCell _) hroom (by rw [hsize, og5, hlr]; omega)
     rw [hrn] at hrun
     injection hrun with r1 r2
     injection r1 with r1 _ r3
     injection r1 with r1; injection r1 with r1
     subst r3; subst r1
     rw [← r2]
     refine full_of_ints (setRow_heap _ _ _ _ _ _ og2) (fun u hu => ?_) (by simp [hlr]; omega)
     simp only [List.mem_append] at hu
     rcases hu with (hu | hu) | hu
     · exact hints u (List.mem_of_mem_take hu)
     · exact ints_lv r u hu
     · exact hints u (List.mem_of_mem_drop hu)
    ·
     have hrn := run_append_grow (P := P) w t o.type 69 i (.int .u32 0) ht hi hz ⟨g0, 0, none⟩ n c0 (lv l) (by rw [hsize]; exact hown.own.1) (hown.own.cells (g := g0) rfl) ad m c (lv r) (by rw [hsize]; omega) hcl (by omega) (by omega) (by rw [hby]; exact growslice_fits (by omega) hbytes)
     rw [hrn] at hrun
     injection hrun with r1 r2
     injection r1 with r1 _ r3
     injection r1 with r1; injection r1 with r1
     subst r3; subst r1
     rw [← r2]
     have hge := grownCap_ge w (n + m) c0 69
     have hlo := hown.own.1
     refine full_of_ints (heap_alloc_new w.drew _) (fun u hu => ?_) (by simp only [Array.size_append, List.size_toArray, size_zeroCells]; rw [hlo, hlr]; simp [Value.cells]; omega)
     simp only [Array.toList_append, List.mem_append] at hu
     rcases hu with (hu | hu) | hu
     · exact ints_lv l u hu
     · exact ints_lv r u hu
     · simp [Builtin.zeroCells, Value.cells, Nat.mod_one] at hu
       exact ⟨0, hu.2.symm⟩
  unfold Oper.wp execOp
  simp only [ho, resolve, invoke, builtin, Sem.run_bind, Sem.run_pure, Result.andThen_ok, List.map_toArray, List.map_cons, List.map_nil, hs, hx, hrun]
  exact hK _ _ (h g cap w' ⟨h2, hown.lim.app hlim, hfull⟩ h3)
end
section
namespace N
theorem _root_.List.reverseRecOn' {α : Type} {motive : List α → Prop} (l : List α) (nil : motive []) (snoc : ∀ l a, motive l → motive (l ++ [a])) : motive l := by
 have h : ∀ n (l : List α), l.length = n → motive l := by
  intro n
  induction n with
  | zero => intro l hl; rw [List.eq_nil_of_length_eq_zero hl]; exact nil
  | succ n ih =>
   intro l hl
   have hne : l ≠ [] := by intro e; rw [e] at hl; simp at hl
   rw [← List.dropLast_concat_getLast hne]
   exact snoc _ _ (ih _ (by simp [hl]))
 exact h l.length l rfl
theorem head_app {l r : List UInt8} (h : l ≠ []) : (l ++ r).head? = l.head? := by cases l with
 | nil => exact absurd rfl h
 | cons x l => rfl
def digc (d : Nat) : UInt8 := UInt8.ofNat (48 + d % 10)
def pad : Nat → Nat → List UInt8
 | 0, _ => []
 | k + 1, n => pad k (n / 10) ++ [digc n]
def decF : Nat → Nat → List UInt8
 | 0, _ => []
 | f + 1, n => if n < 10 then [digc n] else decF f (n / 10) ++ [digc n]
def txt (n : Nat) : List UInt8 := decF (n + 1) n
theorem pad_length (k n : Nat) : (pad k n).length = k := by
 induction k generalizing n with
 | zero => rfl
 | succ k ih => simp [pad, ih]
theorem pad_add (a b n : Nat) : pad (a + b) n = pad a (n / 10 ^ b) ++ pad b n := by
 induction b generalizing n with
 | zero => simp [pad]
 | succ b ih => rw [← Nat.add_assoc, pad, pad, ih, Nat.div_div_eq_div_mul, Nat.pow_succ, Nat.mul_comm 10, List.append_assoc]
theorem decF_fuel (f g n : Nat) (hf : n < f) (hg : n < g) : decF f n = decF g n := by
 induction f generalizing g n with
 | zero => omega
 | succ f ih =>
  cases g with
  | zero => omega
  | succ g =>
   unfold decF
   split
   · rfl
   · rw [ih g (n / 10) (by omega) (by omega)]
theorem txt_small {n : Nat} (h : n < 10) : txt n = [digc n] := by unfold txt decF; rw [if_pos h]
theorem txt_big {n : Nat} (h : 10 ≤ n) : txt n = txt (n / 10) ++ [digc n] := by
 unfold txt
 rw [decF, if_neg (by omega), decF_fuel n (n / 10 + 1) (n / 10) (by omega) (by omega)]
theorem digc_zero {n : Nat} (h : digc n = 48) : n % 10 = 0 := by
 have h2 := congrArg UInt8.toNat h
 simp only [digc, UInt8.toNat_ofNat', Nat.reducePow] at h2
 have h3 : (48 + n % 10) % 256 = 48 := h2
 omega
theorem txt_ne_nil (n : Nat) : txt n ≠ [] := by
 by_cases h : n < 10
 · rw [txt_small h]; simp
 · rw [txt_big (by omega)]; simp
theorem txt_head {n : Nat} (h : 0 < n) : (txt n).head? ≠ some 48 := by
 induction n using Nat.strongRecOn with
 | _ n ih =>
  by_cases h1 : n < 10
  · rw [txt_small h1]
    intro h2
    have := digc_zero (by simpa using h2)
    omega
  · rw [txt_big (by omega), head_app (txt_ne_nil _)]
    exact ih (n / 10) (by omega) (by omega)
theorem pad_txt (k n : Nat) (h0 : 0 < n) (h : n < 10 ^ k) : ∃ z, pad k n = List.replicate z 48 ++ txt n := by
 induction k generalizing n with
 | zero => simp at h; omega
 | succ k ih =>
  by_cases h1 : n < 10
  ·
   refine ⟨k, ?_⟩
   rw [txt_small h1, pad]
   congr 1
   have : n / 10 = 0 := by omega
   rw [this]
   clear ih h h1 this h0
   induction k with
   | zero => rfl
   | succ k ih => rw [pad, Nat.zero_div, ih, List.replicate_succ']; rfl
  · obtain ⟨z, hz⟩ := ih (n / 10) (by omega) (by rw [Nat.pow_succ] at h; exact Nat.div_lt_of_lt_mul (by rw [Nat.mul_comm]; exact h))
    exact ⟨z, by rw [pad, hz, txt_big (show 10 ≤ n by omega), List.append_assoc]⟩
def val (l : List UInt8) : Nat := l.foldl (fun a c => 10 * a + (c.toNat - 48)) 0
def isDig (c : UInt8) : Prop := 48 ≤ c.toNat ∧ c.toNat ≤ 57
theorem val_snoc (l : List UInt8) (c : UInt8) : val (l ++ [c]) = 10 * val l + (c.toNat - 48) := by simp [val]
def okTxt (l : List UInt8) : Prop := l ≠ [] ∧ (∀ c ∈ l, isDig c) ∧ (l.head? = some 48 → l.length = 1)
theorem val_append (a b : List UInt8) : val (a ++ b) = val a * 10 ^ b.length + val b := by
 induction b using List.reverseRecOn' with
 | nil => simp [val]
 | snoc b c ih =>
  rw [← List.append_assoc, val_snoc, val_snoc, ih, List.length_append, List.length_singleton, Nat.pow_succ, Nat.mul_add, Nat.add_assoc]
  congr 1
  rw [Nat.mul_left_comm, Nat.mul_comm 10]
theorem val_lt {l : List UInt8} (h : ∀ c ∈ l, isDig c) : val l < 10 ^ l.length := by
 induction l using List.reverseRecOn' with
 | nil => simp [val]
 | snoc l c ih =>
  have h1 := ih fun x hx => h x (by simp [hx])
  have h2 := h c (by simp)
  unfold isDig at h2
  rw [val_snoc, List.length_append, List.length_singleton, Nat.pow_succ]
  omega
def mC (f d : Nat) (a : List Nat) : Nat → Nat
 | 0 => d
 | k + 1 => (mC f d a k + dg a k * f) / 4294967296
def mS (f d : Nat) (a : List Nat) : Nat → List Nat
 | 0 => a
 | k + 1 => (mS f d a k).set k ((mC f d a k + dg a k * f) % 4294967296)
theorem mC_lt {f d : Nat} {a : List Nat} (ha : Lim a) (hd : d < f) (k : Nat) : mC f d a k < f := by
 induction k with
 | zero => exact hd
 | succ k ih =>
  have h1 := dg_lt ha k
  have h2 : (dg a k + 1) * f ≤ 4294967296 * f := Nat.mul_le_mul_right _ h1
  rw [Nat.add_mul] at h2
  rw [mC, Nat.div_lt_iff_lt_mul (by omega), Nat.mul_comm f]
  omega
theorem mS_length (f d : Nat) (a : List Nat) (k : Nat) : (mS f d a k).length = a.length := by
 induction k with
 | zero => rfl
 | succ k ih => simp [mS, ih]
theorem mS_lim (f d : Nat) {a : List Nat} (ha : Lim a) (k : Nat) : Lim (mS f d a k) := by
 induction k with
 | zero => exact ha
 | succ k ih => exact ih.set _ _ (Nat.mod_lt _ (by omega))
theorem mS_dg_ge (f d : Nat) (a : List Nat) (k j : Nat) (h : k ≤ j) : dg (mS f d a k) j = dg a j := by
 induction k with
 | zero => rfl
 | succ k ih =>
  by_cases hk : k < a.length
  · rw [mS, dg_set _ _ _ _ (by rw [mS_length]; exact hk), if_neg (by omega), ih (by omega)]
  · rw [mS, List.set_eq_of_length_le (by rw [mS_length]; omega), ih (by omega)]
theorem mS_nv (f d : Nat) (a : List Nat) (k : Nat) (hk : k ≤ a.length) : nv ((mS f d a k).take k) + 4294967296 ^ k * mC f d a k = nv (a.take k) * f + d := by
 induction k with
 | zero => simp [mC, nv]
 | succ k ih =>
  have h1 := ih (by omega)
  have h2 := nv_take_succ a k (by omega)
  have h4 : nv ((mS f d a (k + 1)).take (k + 1)) = nv ((mS f d a k).take k) + 4294967296 ^ k * ((mC f d a k + dg a k * f) % 4294967296) := by
   rw [mS, take_set_succ _ _ _ (by rw [mS_length]; omega), nv_snoc, List.length_take, mS_length, Nat.min_eq_left (by omega)]
  have h6 : 4294967296 ^ k * ((mC f d a k + dg a k * f) % 4294967296 + 4294967296 * ((mC f d a k + dg a k * f) / 4294967296)) = 4294967296 ^ k * (mC f d a k + dg a k * f) := by rw [Nat.mod_add_div]
  simp only [Nat.mul_add] at h6
  rw [h2, h4, show mC f d a (k + 1) = (mC f d a k + dg a k * f) / 4294967296 from rfl, Nat.pow_succ, Nat.mul_assoc, Nat.add_mul, Nat.mul_assoc (4294967296 ^ k)]
  omega
theorem eq_ofN {l : List Nat} (hl : Lim l) (h : l = [] ∨ 4294967296 ^ (l.length - 1) ≤ nv l) : l = ofN (nv l) := by
 rcases h with rfl | h
 · rfl
 ·
  have h1 := ofN_nv_length hl
  have h2 := lt_pow_ofN (nv l)
  refine nv_inj ?_ hl (lim_ofN _) (nv_ofN _).symm
  rcases Nat.lt_or_ge (ofN (nv l)).length l.length with h3 | h3
  · have h4 : 4294967296 ^ (ofN (nv l)).length ≤ 4294967296 ^ (l.length - 1) := Nat.pow_le_pow_right (by omega) (by omega)
    omega
  · omega
theorem mS_all {f d v : Nat} (hf : 0 < f) (h0 : mC f d (ofN v) (ofN v).length = 0) : mS f d (ofN v) (ofN v).length = ofN (v * f + d) := by
 have h1 := mS_nv f d (ofN v) (ofN v).length (Nat.le_refl _)
 have hlen := mS_length f d (ofN v) (ofN v).length
 rw [h0, List.take_length, List.take_of_length_le (by omega), nv_ofN, Nat.mul_zero, Nat.add_zero] at h1
 rw [← h1]
 refine eq_ofN (mS_lim f d (lim_ofN v) _) ?_
 by_cases hv : ofN v = []
 · left; exact List.eq_nil_of_length_eq_zero (by rw [hlen, hv]; rfl)
 ·
  right
  have h2 := nv_ge (bare_ofN v) hv
  rw [nv_ofN] at h2
  rw [hlen, h1]
  have := Nat.le_mul_of_pos_right v hf
  omega
theorem mS_more {f d v : Nat} (h0 : 0 < mC f d (ofN v) (ofN v).length) (hc : mC f d (ofN v) (ofN v).length < 4294967296) : mS f d (ofN v) (ofN v).length ++ [mC f d (ofN v) (ofN v).length] = ofN (v * f + d) := by
 have h1 := mS_nv f d (ofN v) (ofN v).length (Nat.le_refl _)
 have hlen := mS_length f d (ofN v) (ofN v).length
 rw [List.take_length, List.take_of_length_le (by omega), nv_ofN] at h1
 have e : nv (mS f d (ofN v) (ofN v).length ++ [mC f d (ofN v) (ofN v).length]) = v * f + d := by rw [nv_snoc, hlen]; exact h1
 rw [← e]
 refine eq_ofN (Lim.app (mS_lim f d (lim_ofN v) _) (Lim.cons hc Lim.nil)) (.inr ?_)
 rw [List.length_append, List.length_singleton, Nat.add_sub_cancel, nv_snoc]
 have := Nat.le_mul_of_pos_right (4294967296 ^ (mS f d (ofN v) (ofN v).length).length) h0
 omega
end N
end
section
namespace X
def letter (c : UInt8) : Bool := decide (97 ≤ c.toNat ∧ c.toNat ≤ 122) || decide (65 ≤ c.toNat ∧ c.toNat ≤ 90)
def digit (c : UInt8) : Bool := decide (48 ≤ c.toNat ∧ c.toNat ≤ 57)
def rowc (c : UInt8) : Bool := letter c || digit c || decide (c.toNat = 95)
def blank (c : UInt8) : Bool := c == 32 || c == 9 || c == 10 || c == 13
def rowLen (l : List UInt8) : Nat := (l.takeWhile rowc).length
def words : List (List UInt8) := [[97, 110, 100], [111, 114], [110, 111, 116], [105, 109, 112, 108, 105, 101, 115], [105, 102, 102], [115, 111, 109, 101], [97, 108, 108], [116, 114, 117, 101], [102, 97, 108, 115, 101], [100, 105, 118, 105, 100, 101, 115]]
def word (l : List UInt8) : Bool := words.contains l
def name (l : List UInt8) : Bool := !l.isEmpty && (letter (l.headD 0) && (rowLen l == l.length && (decide (l.length ≤ 24) && !word l)))
instance (l : List UInt8) : Decidable (N.okTxt l) := by unfold N.okTxt N.isDig; infer_instance
def rowed (l : List UInt8) : Nat × Nat := if digit (l.headD 0) then (if N.okTxt l then (0, 1) else (12, 0)) else if word l then (0, 3) else if name l then (0, 2) else (30, 0)
def sgn2 (c : UInt8) : Bool := c == 60 || c == 62 || c == 33
def sgn1 (c : UInt8) : Bool := [60, 62, 61, 43, 45, 42, 46, 40, 41].contains c
def sgnLen (l : List UInt8) : Nat := if 1 < l.length ∧ l.getD 1 0 = 61 ∧ sgn2 (l.headD 0) = true then 2 else if sgn1 (l.headD 0) then 1 else 0
def one (l : List UInt8) : Nat × Nat × Nat :=
 if 0 < rowLen l then ((rowed (l.take (rowLen l))).1, (rowed (l.take (rowLen l))).2, rowLen l)
 else if sgnLen l = 0 then (30, 0, 0) else (0, 4, sgnLen l)
def lexF (l : List UInt8) : Nat → Nat → List (Nat × Nat × Nat) × Nat × Nat
 | 0, _ => ([], 0, 0)
 | f + 1, at_ => if l.length ≤ at_ then ([], 0, 0) else if blank (l.getD at_ 0) then lexF l f (at_ + 1)
     else if (one (l.drop at_)).1 ≠ 0 then ([], (one (l.drop at_)).1, at_)
     else (((one (l.drop at_)).2.1, at_, (one (l.drop at_)).2.2) :: (lexF l f (at_ + (one (l.drop at_)).2.2)).1, (lexF l f (at_ + (one (l.drop at_)).2.2)).2)
def lex (l : List UInt8) (at_ : Nat) : List (Nat × Nat × Nat) × Nat × Nat := lexF l (l.length + 1 - at_) at_
theorem rowLen_le (l : List UInt8) : rowLen l ≤ l.length := List.IsPrefix.length_le (List.takeWhile_prefix _)
theorem rowLen_eq {l : List UInt8} {k : Nat} (hk : k ≤ l.length) (h : ∀ j, j < k → rowc (l.getD j 0) = true) (he : k = l.length ∨ rowc (l.getD k 0) = false) : rowLen l = k := by
 unfold rowLen
 induction l generalizing k with
 | nil => have : k = 0 := by simpa using hk
          subst this; rfl
 | cons c l ih =>
  cases k with
  | zero =>
   rcases he with he | he
   · simp at he
   · have : rowc c = false := by simpa [List.getD] using he
     simp [List.takeWhile, this]
  | succ k =>
   have h0 : rowc c = true := by simpa [List.getD] using h 0 (by omega)
   have h1 := ih (k := k) (by simpa using hk) (fun j hj => by simpa [List.getD] using h (j + 1) (by omega)) (by
    rcases he with he | he
    · left; simpa using he
    · right; simpa [List.getD] using he)
   simp [List.takeWhile, h0, h1]
theorem one_pos {l : List UInt8} (h : (one l).1 = 0) : 0 < (one l).2.2 ∧ (l = [] → False) ∧ (one l).2.2 ≤ l.length := by
 unfold one at h ⊢
 by_cases h1 : 0 < rowLen l
 · rw [if_pos h1] at h ⊢
   have h2 := rowLen_le l
   exact ⟨h1, fun e => by subst e; simp [rowLen] at h1, h2⟩
 ·
  rw [if_neg h1] at h ⊢
  by_cases h2 : sgnLen l = 0
  · rw [if_pos h2] at h; cases h
  ·
   rw [if_neg h2]
   have hne : l ≠ [] := fun e => by subst e; exact h2 (by decide)
   refine ⟨by show 0 < sgnLen l; omega, hne, ?_⟩
   show sgnLen l ≤ l.length
   have hl : 0 < l.length := List.length_pos_iff.2 hne
   unfold sgnLen
   split
   · rename_i h3; omega
   · split <;> omega
theorem lexF_more (l : List UInt8) : ∀ (f f' at_ : Nat), l.length < f + at_ → l.length < f' + at_ → lexF l f at_ = lexF l f' at_ := by
 intro f
 induction f with
 | zero =>
  intro f' at_ h h'
  cases f' with
  | zero => rfl
  | succ f' => rw [show lexF l (f' + 1) at_ = ([], 0, 0) by unfold lexF; rw [if_pos (by omega)]]; rfl
 | succ f ih =>
  intro f' at_ h h'
  cases f' with
  | zero => rw [show lexF l (f + 1) at_ = ([], 0, 0) by unfold lexF; rw [if_pos (by omega)]]; rfl
  | succ f' =>
   unfold lexF
   by_cases h0 : l.length ≤ at_
   · rw [if_pos h0, if_pos h0]
   rw [if_neg h0, if_neg h0]
   by_cases h1 : blank (l.getD at_ 0) = true
   · rw [if_pos h1, if_pos h1]; exact ih _ _ (by omega) (by omega)
   rw [if_neg h1, if_neg h1]
   by_cases h2 : (one (l.drop at_)).1 ≠ 0
   · rw [if_pos h2, if_pos h2]
   rw [if_neg h2, if_neg h2]
   have h3 := one_pos (l := l.drop at_) (by simpa using h2)
   rw [ih f' (at_ + (one (l.drop at_)).2.2) (by omega) (by omega)]
theorem lex_end {l : List UInt8} {at_ : Nat} (h : l.length ≤ at_) : lex l at_ = ([], 0, 0) := by
 unfold lex
 cases hf : l.length + 1 - at_ with
 | zero => rfl
 | succ f => unfold lexF; rw [if_pos h]
theorem lex_step {l : List UInt8} {at_ : Nat} (h : at_ < l.length) : lex l at_ = if blank (l.getD at_ 0) then lex l (at_ + 1) else if (one (l.drop at_)).1 ≠ 0 then ([], (one (l.drop at_)).1, at_)
    else (((one (l.drop at_)).2.1, at_, (one (l.drop at_)).2.2) :: (lex l (at_ + (one (l.drop at_)).2.2)).1, (lex l (at_ + (one (l.drop at_)).2.2)).2) := by
  have e : lex l at_ = lexF l (l.length - at_ + 1) at_ := by unfold lex; exact lexF_more l _ _ _ (by omega) (by omega)
  rw [e]
  rw [show lexF l (l.length - at_ + 1) at_ = if l.length ≤ at_ then ([], 0, 0) else if blank (l.getD at_ 0) then lexF l (l.length - at_) (at_ + 1)
      else if (one (l.drop at_)).1 ≠ 0 then ([], (one (l.drop at_)).1, at_)
      else (((one (l.drop at_)).2.1, at_, (one (l.drop at_)).2.2) :: (lexF l (l.length - at_) (at_ + (one (l.drop at_)).2.2)).1, (lexF l (l.length - at_) (at_ + (one (l.drop at_)).2.2)).2) by rw [lexF]]
  rw [if_neg (by omega)]
  by_cases h1 : blank (l.getD at_ 0) = true
  · rw [if_pos h1, if_pos h1]; exact lexF_more l _ _ _ (by omega) (by omega)
  rw [if_neg h1, if_neg h1]
  by_cases h2 : (one (l.drop at_)).1 ≠ 0
  · rw [if_pos h2, if_pos h2]
  rw [if_neg h2, if_neg h2]
  have h3 := one_pos (l := l.drop at_) (by simpa using h2)
  rw [show lexF l (l.length - at_) (at_ + (one (l.drop at_)).2.2) = lex l (at_ + (one (l.drop at_)).2.2) from lexF_more l _ _ _ (by omega) (by omega)]
theorem lex_blank {l : List UInt8} {at_ : Nat} (h : at_ < l.length) (hb : blank (l.getD at_ 0) = true) : lex l at_ = lex l (at_ + 1) := by rw [lex_step h, if_pos hb]
theorem lex_err {l : List UInt8} {at_ : Nat} (h : at_ < l.length) (hb : blank (l.getD at_ 0) = false) (he : (one (l.drop at_)).1 ≠ 0) : lex l at_ = ([], (one (l.drop at_)).1, at_) := by
 rw [lex_step h, if_neg (by rw [hb]; decide), if_pos he]
theorem lex_tok {l : List UInt8} {at_ : Nat} (h : at_ < l.length) (hb : blank (l.getD at_ 0) = false) (he : (one (l.drop at_)).1 = 0) :
    lex l at_ = (((one (l.drop at_)).2.1, at_, (one (l.drop at_)).2.2) :: (lex l (at_ + (one (l.drop at_)).2.2)).1, (lex l (at_ + (one (l.drop at_)).2.2)).2) := by
  rw [lex_step h, if_neg (by rw [hb]; decide), if_neg (by rw [he]; decide)]
end X
end
end Go.Proofs.YthiadenmljbdaaaGreatDoor

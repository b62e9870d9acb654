/-
  s: the parts YFrame Dec LexMath LParse RefMath LRParse of the proof.
-/
import Derived.Test.YthiadenmljbdaaaGreatDoorCards
import Derived.Test.YthiadenmljbdaaaGreatDoorTie
import Derived.Test.YthiadenmljbdaaaGreatDoorB2s
import Derived.ProofKit
import Derived.OpenShut
import Derived.Deep.DeepHandedRow
import Derived.ChangeMaps5
import Derived.Test.YthiadenmljbdaaaGreatDoorB1s
import Derived.Shelf.Strings.SlTrimAscii
import Derived.Laws.CopyOwn
section
namespace Go.Proofs.YthiadenmljbdaaaGreatDoor
open Go.RowKit
open Go.ChangeShapes Go.ChangeMaps Go.WideShapes Go.ChangeAt
theorem own : ownKnob Tryz.prog.godebug = none := by kernel_rfl
theorem laidOut : laidOutB Tryz.prog = true := by kernel_rfl
theorem cellsU32 : Tryz.prog.cellsOf 69 = 1 := by kernel_rfl
def cellsOfLits {H : Type} : List (DataW H) → List Value
  | [] => []
  | .lit (.int k n) :: r => .int k n :: cellsOfLits r
  | _ :: r => cellsOfLits r
def cellsOfDatum {H : Type} : DataW H → List Value
  | .agg l => l.flatMap fun | .lit (.int k n) => [.int k n] | .agg m => cellsOfLits m | _ => []
  | _ => []
def putCells (cs : Array Value) : Obj → Obj
  | .cells _ t frozen => .cells cs t frozen
  | o => o
noncomputable def laidWorld (os : Os) : World :=
  { World.holding Tryz.prog os ⟨#[], #[], []⟩ with heap := ((World.holding Tryz.prog os ⟨#[], #[], []⟩).heap.modify 1 (putCells (cellsOfDatum Go.Pinned.utf8First).toArray)).modify 2 (putCells (cellsOfDatum (Rows.laid_unicode_utf8_acceptRanges (H := Unit))).toArray) }
section
variable {H : Type} {enc : TypeId × Value → H} {W : World}
def limbs (zs : List Int) : List Nat := zs.map Int.toNat
theorem limbs_dg (zs : List Int) (k : Nat) (h : k < zs.length) (h0 : 0 ≤ zs.getD k 0) : (N.dg (limbs zs) k : Int) = zs.getD k 0 := by
  rw [N.dg_get _ _ (by simpa [limbs] using h)]
  have e : zs.getD k 0 = zs[k] := by simp [List.getD, h]
  rw [e] at h0 ⊢
  simp only [limbs, List.getElem_map]
  omega
end
section
variable {H : Type} {enc : TypeId × Value → H} {W : World}
set_option maxRecDepth 100000 in
theorem open_text {base : Nat} {v : Value} {d : DataW H} {p : List MemPlace} (hval : Value.okWide Tryz.prog W .any base 9 v) (h : DataW.Trod enc Tryz.prog W 0 (fun _ => true) true 9 v d p) :
    (∃ S : ByteArray, v = .string S ∧ S.size + 1 ≤ Rows.uptoBulk d) ∧ ∀ W', Below W.heap.size W W' → DataW.Trod enc Tryz.prog W' 0 (fun b => decide (b < W.heap.size)) true 9 v d p := by
  obtain ⟨S, rfl, rfl, rfl, hs⟩ := open_string Tryz.underlying9 hval h
  exact ⟨⟨S, rfl, by simp only [Rows.uptoBulk, Array.length_toList]; exact Nat.le_refl _⟩, fun W' _ => shut_string Tryz.underlying9 hs⟩
end
end Go.Proofs.YthiadenmljbdaaaGreatDoor
end
section
namespace Go.Proofs.YthiadenmljbdaaaGreatDoor
namespace N
theorem _root_.List.reverseRecOn' {α : Type} {motive : List α → Prop} (l : List α) (nil : motive []) (snoc : ∀ l a, motive l → motive (l ++ [a])) : motive l := by
  have h : ∀ n (l : List α), l.length = n → motive l := by
    intro n
    induction n with
    | zero => intro l hl; rw [List.eq_nil_of_length_eq_zero hl]; exact nil
    | succ n ih =>
      intro l hl
      have hne : l ≠ [] := by intro e; rw [e] at hl; simp at hl
      rw [← List.dropLast_concat_getLast hne]
      exact snoc _ _ (ih _ (by simp [hl]))
  exact h l.length l rfl
theorem head_app {l r : List UInt8} (h : l ≠ []) : (l ++ r).head? = l.head? := by cases l with
  | nil => exact absurd rfl h
  | cons x l => rfl
def digc (d : Nat) : UInt8 := UInt8.ofNat (48 + d % 10)
def pad : Nat → Nat → List UInt8
  | 0, _ => []
  | k + 1, n => pad k (n / 10) ++ [digc n]
def decF : Nat → Nat → List UInt8
  | 0, _ => []
  | f + 1, n => if n < 10 then [digc n] else decF f (n / 10) ++ [digc n]
def txt (n : Nat) : List UInt8 := decF (n + 1) n
theorem pad_length (k n : Nat) : (pad k n).length = k := by
  induction k generalizing n with
  | zero => rfl
  | succ k ih => simp [pad, ih]
theorem pad_add (a b n : Nat) : pad (a + b) n = pad a (n / 10 ^ b) ++ pad b n := by
  induction b generalizing n with
  | zero => simp [pad]
  | succ b ih => rw [← Nat.add_assoc, pad, pad, ih, Nat.div_div_eq_div_mul, Nat.pow_succ, Nat.mul_comm 10, List.append_assoc]
theorem decF_fuel (f g n : Nat) (hf : n < f) (hg : n < g) : decF f n = decF g n := by
  induction f generalizing g n with
  | zero => omega
  | succ f ih =>
    cases g with
    | zero => omega
    | succ g =>
      unfold decF
      split
      · rfl
      · rw [ih g (n / 10) (by omega) (by omega)]
theorem txt_small {n : Nat} (h : n < 10) : txt n = [digc n] := by unfold txt decF; rw [if_pos h]
theorem txt_big {n : Nat} (h : 10 ≤ n) : txt n = txt (n / 10) ++ [digc n] := by
  unfold txt
  rw [decF, if_neg (by omega), decF_fuel n (n / 10 + 1) (n / 10) (by omega) (by omega)]
theorem digc_zero {n : Nat} (h : digc n = 48) : n % 10 = 0 := by
  have h2 := congrArg UInt8.toNat h
  simp only [digc, UInt8.toNat_ofNat', Nat.reducePow] at h2
  have h3 : (48 + n % 10) % 256 = 48 := h2
  omega
theorem digc_toNat (n : Nat) : (digc n).toNat = 48 + n % 10 := by
  simp only [digc, UInt8.toNat_ofNat', Nat.reducePow]; omega
theorem txt_ne_nil (n : Nat) : txt n ≠ [] := by
  by_cases h : n < 10
  · rw [txt_small h]; simp
  · rw [txt_big (by omega)]; simp
theorem txt_head {n : Nat} (h : 0 < n) : (txt n).head? ≠ some 48 := by
  induction n using Nat.strongRecOn with
  | _ n ih =>
    by_cases h1 : n < 10
    · rw [txt_small h1]
      intro h2
      have := digc_zero (by simpa using h2)
      omega
    · rw [txt_big (by omega), head_app (txt_ne_nil _)]
      exact ih (n / 10) (by omega) (by omega)
theorem pad_txt (k n : Nat) (h0 : 0 < n) (h : n < 10 ^ k) : ∃ z, pad k n = List.replicate z 48 ++ txt n := by
  induction k generalizing n with
  | zero => simp at h; omega
  | succ k ih =>
    by_cases h1 : n < 10
    · refine ⟨k, ?_⟩
      rw [txt_small h1, pad]
      congr 1
      have : n / 10 = 0 := by omega
      rw [this]
      clear ih h h1 this h0
      induction k with
      | zero => rfl
      | succ k ih => rw [pad, Nat.zero_div, ih, List.replicate_succ']; rfl
    · obtain ⟨z, hz⟩ := ih (n / 10) (by omega) (by rw [Nat.pow_succ] at h; exact Nat.div_lt_of_lt_mul (by rw [Nat.mul_comm]; exact h))
      exact ⟨z, by rw [pad, hz, txt_big (show 10 ≤ n by omega), List.append_assoc]⟩
def val (l : List UInt8) : Nat := l.foldl (fun a c => 10 * a + (c.toNat - 48)) 0
def isDig (c : UInt8) : Prop := 48 ≤ c.toNat ∧ c.toNat ≤ 57
theorem val_snoc (l : List UInt8) (c : UInt8) : val (l ++ [c]) = 10 * val l + (c.toNat - 48) := by simp [val]
theorem val_txt (n : Nat) : val (txt n) = n := by
  induction n using Nat.strongRecOn with
  | _ n ih =>
    by_cases h1 : n < 10
    · rw [txt_small h1]; simp only [val, List.foldl_cons, List.foldl_nil, digc_toNat]; omega
    · rw [txt_big (by omega), val_snoc, ih (n / 10) (by omega), digc_toNat]; omega
theorem txt_digs (n : Nat) : ∀ c ∈ txt n, isDig c := by
  induction n using Nat.strongRecOn with
  | _ n ih =>
    by_cases h1 : n < 10
    · rw [txt_small h1]; intro c hc; rw [List.mem_singleton.1 hc]; unfold isDig; rw [digc_toNat]; omega
    · rw [txt_big (by omega)]
      intro c hc
      rcases List.mem_append.1 hc with hc | hc
      · exact ih (n / 10) (by omega) c hc
      · rw [List.mem_singleton.1 hc]; unfold isDig; rw [digc_toNat]; omega
def okTxt (l : List UInt8) : Prop := l ≠ [] ∧ (∀ c ∈ l, isDig c) ∧ (l.head? = some 48 → l.length = 1)
theorem okTxt_txt (n : Nat) : okTxt (txt n) := by
  refine ⟨txt_ne_nil n, txt_digs n, fun h => ?_⟩
  rcases Nat.eq_zero_or_pos n with h0 | h0
  · subst h0; rfl
  · exact absurd h (txt_head h0)
theorem val_append (a b : List UInt8) : val (a ++ b) = val a * 10 ^ b.length + val b := by
  induction b using List.reverseRecOn' with
  | nil => simp [val]
  | snoc b c ih =>
    rw [← List.append_assoc, val_snoc, val_snoc, ih, List.length_append, List.length_singleton, Nat.pow_succ, Nat.mul_add, Nat.add_assoc]
    congr 1
    rw [Nat.mul_left_comm, Nat.mul_comm 10]
theorem val_lt {l : List UInt8} (h : ∀ c ∈ l, isDig c) : val l < 10 ^ l.length := by
  induction l using List.reverseRecOn' with
  | nil => simp [val]
  | snoc l c ih =>
    have h1 := ih fun x hx => h x (by simp [hx])
    have h2 := h c (by simp)
    unfold isDig at h2
    rw [val_snoc, List.length_append, List.length_singleton, Nat.pow_succ]
    omega
def mC (f d : Nat) (a : List Nat) : Nat → Nat
  | 0 => d
  | k + 1 => (mC f d a k + dg a k * f) / 4294967296
def mS (f d : Nat) (a : List Nat) : Nat → List Nat
  | 0 => a
  | k + 1 => (mS f d a k).set k ((mC f d a k + dg a k * f) % 4294967296)
theorem mC_lt {f d : Nat} {a : List Nat} (ha : Lim a) (hd : d < f) (k : Nat) : mC f d a k < f := by
  induction k with
  | zero => exact hd
  | succ k ih =>
    have h1 := dg_lt ha k
    have h2 : (dg a k + 1) * f ≤ 4294967296 * f := Nat.mul_le_mul_right _ h1
    rw [Nat.add_mul] at h2
    rw [mC, Nat.div_lt_iff_lt_mul (by omega), Nat.mul_comm f]
    omega
theorem mS_length (f d : Nat) (a : List Nat) (k : Nat) : (mS f d a k).length = a.length := by
  induction k with
  | zero => rfl
  | succ k ih => simp [mS, ih]
theorem mS_lim (f d : Nat) {a : List Nat} (ha : Lim a) (k : Nat) : Lim (mS f d a k) := by
  induction k with
  | zero => exact ha
  | succ k ih => exact ih.set _ _ (Nat.mod_lt _ (by omega))
theorem mS_dg_ge (f d : Nat) (a : List Nat) (k j : Nat) (h : k ≤ j) : dg (mS f d a k) j = dg a j := by
  induction k with
  | zero => rfl
  | succ k ih =>
    by_cases hk : k < a.length
    · rw [mS, dg_set _ _ _ _ (by rw [mS_length]; exact hk), if_neg (by omega), ih (by omega)]
    · rw [mS, List.set_eq_of_length_le (by rw [mS_length]; omega), ih (by omega)]
theorem mS_nv (f d : Nat) (a : List Nat) (k : Nat) (hk : k ≤ a.length) : nv ((mS f d a k).take k) + 4294967296 ^ k * mC f d a k = nv (a.take k) * f + d := by
  induction k with
  | zero => simp [mC, nv]
  | succ k ih =>
    have h1 := ih (by omega)
    have h2 := nv_take_succ a k (by omega)
    have h4 : nv ((mS f d a (k + 1)).take (k + 1)) = nv ((mS f d a k).take k) + 4294967296 ^ k * ((mC f d a k + dg a k * f) % 4294967296) := by
      rw [mS, take_set_succ _ _ _ (by rw [mS_length]; omega), nv_snoc, List.length_take, mS_length, Nat.min_eq_left (by omega)]
    have h6 : 4294967296 ^ k * ((mC f d a k + dg a k * f) % 4294967296 + 4294967296 * ((mC f d a k + dg a k * f) / 4294967296)) = 4294967296 ^ k * (mC f d a k + dg a k * f) := by rw [Nat.mod_add_div]
    simp only [Nat.mul_add] at h6
    rw [h2, h4, show mC f d a (k + 1) = (mC f d a k + dg a k * f) / 4294967296 from rfl, Nat.pow_succ, Nat.mul_assoc, Nat.add_mul, Nat.mul_assoc (4294967296 ^ k)]
    omega
theorem eq_ofN {l : List Nat} (hl : Lim l) (h : l = [] ∨ 4294967296 ^ (l.length - 1) ≤ nv l) : l = ofN (nv l) := by
  rcases h with rfl | h
  · rfl
  · have h1 := ofN_nv_length hl
    have h2 := lt_pow_ofN (nv l)
    refine nv_inj ?_ hl (lim_ofN _) (nv_ofN _).symm
    rcases Nat.lt_or_ge (ofN (nv l)).length l.length with h3 | h3
    · have h4 : 4294967296 ^ (ofN (nv l)).length ≤ 4294967296 ^ (l.length - 1) := Nat.pow_le_pow_right (by omega) (by omega)
      omega
    · omega
theorem mS_all {f d v : Nat} (hf : 0 < f) (h0 : mC f d (ofN v) (ofN v).length = 0) : mS f d (ofN v) (ofN v).length = ofN (v * f + d) := by
  have h1 := mS_nv f d (ofN v) (ofN v).length (Nat.le_refl _)
  have hlen := mS_length f d (ofN v) (ofN v).length
  rw [h0, List.take_length, List.take_of_length_le (by omega), nv_ofN, Nat.mul_zero, Nat.add_zero] at h1
  rw [← h1]
  refine eq_ofN (mS_lim f d (lim_ofN v) _) ?_
  by_cases hv : ofN v = []
  · left; exact List.eq_nil_of_length_eq_zero (by rw [hlen, hv]; rfl)
  · right
    have h2 := nv_ge (bare_ofN v) hv
    rw [nv_ofN] at h2
    rw [hlen, h1]
    have := Nat.le_mul_of_pos_right v hf
    omega
theorem mS_more {f d v : Nat} (h0 : 0 < mC f d (ofN v) (ofN v).length) (hc : mC f d (ofN v) (ofN v).length < 4294967296) : mS f d (ofN v) (ofN v).length ++ [mC f d (ofN v) (ofN v).length] = ofN (v * f + d) := by
  have h1 := mS_nv f d (ofN v) (ofN v).length (Nat.le_refl _)
  have hlen := mS_length f d (ofN v) (ofN v).length
  rw [List.take_length, List.take_of_length_le (by omega), nv_ofN] at h1
  have e : nv (mS f d (ofN v) (ofN v).length ++ [mC f d (ofN v) (ofN v).length]) = v * f + d := by rw [nv_snoc, hlen]; exact h1
  rw [← e]
  refine eq_ofN (Lim.app (mS_lim f d (lim_ofN v) _) (Lim.cons hc Lim.nil)) (.inr ?_)
  rw [List.length_append, List.length_singleton, Nat.add_sub_cancel, nv_snoc]
  have := Nat.le_mul_of_pos_right (4294967296 ^ (mS f d (ofN v) (ofN v).length).length) h0
  omega
end N
end Go.Proofs.YthiadenmljbdaaaGreatDoor
end
section
namespace Go.Proofs.YthiadenmljbdaaaGreatDoor
namespace X
def letter (c : UInt8) : Bool := decide (97 ≤ c.toNat ∧ c.toNat ≤ 122) || decide (65 ≤ c.toNat ∧ c.toNat ≤ 90)
def digit (c : UInt8) : Bool := decide (48 ≤ c.toNat ∧ c.toNat ≤ 57)
def rowc (c : UInt8) : Bool := letter c || digit c || decide (c.toNat = 95)
def blank (c : UInt8) : Bool := c == 32 || c == 9 || c == 10 || c == 13
def rowLen (l : List UInt8) : Nat := (l.takeWhile rowc).length
def words : List (List UInt8) := [[97, 110, 100], [111, 114], [110, 111, 116], [105, 109, 112, 108, 105, 101, 115], [105, 102, 102], [115, 111, 109, 101], [97, 108, 108], [116, 114, 117, 101], [102, 97, 108, 115, 101], [100, 105, 118, 105, 100, 101, 115]]
def word (l : List UInt8) : Bool := words.contains l
def name (l : List UInt8) : Bool := !l.isEmpty && (letter (l.headD 0) && (rowLen l == l.length && (decide (l.length ≤ 24) && !word l)))
instance (l : List UInt8) : Decidable (N.okTxt l) := by unfold N.okTxt N.isDig; infer_instance
def rowed (l : List UInt8) : Nat × Nat := if digit (l.headD 0) then (if N.okTxt l then (0, 1) else (12, 0)) else if word l then (0, 3) else if name l then (0, 2) else (30, 0)
def sgn2 (c : UInt8) : Bool := c == 60 || c == 62 || c == 33
def sgn1 (c : UInt8) : Bool := [60, 62, 61, 43, 45, 42, 46, 40, 41].contains c
def sgnLen (l : List UInt8) : Nat := if 1 < l.length ∧ l.getD 1 0 = 61 ∧ sgn2 (l.headD 0) = true then 2 else if sgn1 (l.headD 0) then 1 else 0
def one (l : List UInt8) : Nat × Nat × Nat :=
  if 0 < rowLen l then ((rowed (l.take (rowLen l))).1, (rowed (l.take (rowLen l))).2, rowLen l)
  else if sgnLen l = 0 then (30, 0, 0) else (0, 4, sgnLen l)
def lexF (l : List UInt8) : Nat → Nat → List (Nat × Nat × Nat) × Nat × Nat
  | 0, _ => ([], 0, 0)
  | f + 1, at_ => if l.length ≤ at_ then ([], 0, 0) else if blank (l.getD at_ 0) then lexF l f (at_ + 1)
      else if (one (l.drop at_)).1 ≠ 0 then ([], (one (l.drop at_)).1, at_)
      else (((one (l.drop at_)).2.1, at_, (one (l.drop at_)).2.2) :: (lexF l f (at_ + (one (l.drop at_)).2.2)).1, (lexF l f (at_ + (one (l.drop at_)).2.2)).2)
def lex (l : List UInt8) (at_ : Nat) : List (Nat × Nat × Nat) × Nat × Nat := lexF l (l.length + 1 - at_) at_
theorem rowLen_le (l : List UInt8) : rowLen l ≤ l.length := List.IsPrefix.length_le (List.takeWhile_prefix _)
theorem rowLen_eq {l : List UInt8} {k : Nat} (hk : k ≤ l.length) (h : ∀ j, j < k → rowc (l.getD j 0) = true) (he : k = l.length ∨ rowc (l.getD k 0) = false) : rowLen l = k := by
  unfold rowLen
  induction l generalizing k with
  | nil => have : k = 0 := by simpa using hk
           subst this; rfl
  | cons c l ih =>
    cases k with
    | zero =>
      rcases he with he | he
      · simp at he
      · have : rowc c = false := by simpa [List.getD] using he
        simp [List.takeWhile, this]
    | succ k =>
      have h0 : rowc c = true := by simpa [List.getD] using h 0 (by omega)
      have h1 := ih (k := k) (by simpa using hk) (fun j hj => by simpa [List.getD] using h (j + 1) (by omega)) (by
        rcases he with he | he
        · left; simpa using he
        · right; simpa [List.getD] using he)
      simp [List.takeWhile, h0, h1]
theorem one_pos {l : List UInt8} (h : (one l).1 = 0) : 0 < (one l).2.2 ∧ (l = [] → False) ∧ (one l).2.2 ≤ l.length := by
  unfold one at h ⊢
  by_cases h1 : 0 < rowLen l
  · rw [if_pos h1] at h ⊢
    have h2 := rowLen_le l
    exact ⟨h1, fun e => by subst e; simp [rowLen] at h1, h2⟩
  · rw [if_neg h1] at h ⊢
    by_cases h2 : sgnLen l = 0
    · rw [if_pos h2] at h; cases h
    · rw [if_neg h2]
      have hne : l ≠ [] := fun e => by subst e; exact h2 (by decide)
      refine ⟨by show 0 < sgnLen l; omega, hne, ?_⟩
      show sgnLen l ≤ l.length
      have hl : 0 < l.length := List.length_pos_iff.2 hne
      unfold sgnLen
      split
      · rename_i h3; omega
      · split <;> omega
theorem lexF_more (l : List UInt8) : ∀ (f f' at_ : Nat), l.length < f + at_ → l.length < f' + at_ → lexF l f at_ = lexF l f' at_ := by
  intro f
  induction f with
  | zero =>
    intro f' at_ h h'
    cases f' with
    | zero => rfl
    | succ f' => rw [show lexF l (f' + 1) at_ = ([], 0, 0) by unfold lexF; rw [if_pos (by omega)]]; rfl
  | succ f ih =>
    intro f' at_ h h'
    cases f' with
    | zero => rw [show lexF l (f + 1) at_ = ([], 0, 0) by unfold lexF; rw [if_pos (by omega)]]; rfl
    | succ f' =>
      unfold lexF
      by_cases h0 : l.length ≤ at_
      · rw [if_pos h0, if_pos h0]
      rw [if_neg h0, if_neg h0]
      by_cases h1 : blank (l.getD at_ 0) = true
      · rw [if_pos h1, if_pos h1]; exact ih _ _ (by omega) (by omega)
      rw [if_neg h1, if_neg h1]
      by_cases h2 : (one (l.drop at_)).1 ≠ 0
      · rw [if_pos h2, if_pos h2]
      rw [if_neg h2, if_neg h2]
      have h3 := one_pos (l := l.drop at_) (by simpa using h2)
      rw [ih f' (at_ + (one (l.drop at_)).2.2) (by omega) (by omega)]
theorem lex_end {l : List UInt8} {at_ : Nat} (h : l.length ≤ at_) : lex l at_ = ([], 0, 0) := by
  unfold lex
  cases hf : l.length + 1 - at_ with
  | zero => rfl
  | succ f => unfold lexF; rw [if_pos h]
theorem lex_step {l : List UInt8} {at_ : Nat} (h : at_ < l.length) : lex l at_ = if blank (l.getD at_ 0) then lex l (at_ + 1) else if (one (l.drop at_)).1 ≠ 0 then ([], (one (l.drop at_)).1, at_)
    else (((one (l.drop at_)).2.1, at_, (one (l.drop at_)).2.2) :: (lex l (at_ + (one (l.drop at_)).2.2)).1, (lex l (at_ + (one (l.drop at_)).2.2)).2) := by
  have e : lex l at_ = lexF l (l.length - at_ + 1) at_ := by unfold lex; exact lexF_more l _ _ _ (by omega) (by omega)
  rw [e]
  rw [show lexF l (l.length - at_ + 1) at_ = if l.length ≤ at_ then ([], 0, 0) else if blank (l.getD at_ 0) then lexF l (l.length - at_) (at_ + 1)
      else if (one (l.drop at_)).1 ≠ 0 then ([], (one (l.drop at_)).1, at_)
      else (((one (l.drop at_)).2.1, at_, (one (l.drop at_)).2.2) :: (lexF l (l.length - at_) (at_ + (one (l.drop at_)).2.2)).1, (lexF l (l.length - at_) (at_ + (one (l.drop at_)).2.2)).2) by rw [lexF]]
  rw [if_neg (by omega)]
  by_cases h1 : blank (l.getD at_ 0) = true
  · rw [if_pos h1, if_pos h1]; exact lexF_more l _ _ _ (by omega) (by omega)
  rw [if_neg h1, if_neg h1]
  by_cases h2 : (one (l.drop at_)).1 ≠ 0
  · rw [if_pos h2, if_pos h2]
  rw [if_neg h2, if_neg h2]
  have h3 := one_pos (l := l.drop at_) (by simpa using h2)
  rw [show lexF l (l.length - at_) (at_ + (one (l.drop at_)).2.2) = lex l (at_ + (one (l.drop at_)).2.2) from lexF_more l _ _ _ (by omega) (by omega)]
theorem lex_blank {l : List UInt8} {at_ : Nat} (h : at_ < l.length) (hb : blank (l.getD at_ 0) = true) : lex l at_ = lex l (at_ + 1) := by rw [lex_step h, if_pos hb]
theorem lex_err {l : List UInt8} {at_ : Nat} (h : at_ < l.length) (hb : blank (l.getD at_ 0) = false) (he : (one (l.drop at_)).1 ≠ 0) : lex l at_ = ([], (one (l.drop at_)).1, at_) := by
  rw [lex_step h, if_neg (by rw [hb]; decide), if_pos he]
theorem lex_tok {l : List UInt8} {at_ : Nat} (h : at_ < l.length) (hb : blank (l.getD at_ 0) = false) (he : (one (l.drop at_)).1 = 0) :
    lex l at_ = (((one (l.drop at_)).2.1, at_, (one (l.drop at_)).2.2) :: (lex l (at_ + (one (l.drop at_)).2.2)).1, (lex l (at_ + (one (l.drop at_)).2.2)).2) := by
  rw [lex_step h, if_neg (by rw [hb]; decide), if_neg (by rw [he]; decide)]
end X
end Go.Proofs.YthiadenmljbdaaaGreatDoor
end
section
namespace Go.Proofs.YthiadenmljbdaaaGreatDoor
open Go.RowKit
theorem info_u32 : (Tryz.prog.info? 69).map (fun i => (i.zero, i.size, i.bytes)) = some (some (.int .u32 0), 1, 4) := by kernel_rfl
theorem dec_ascii : ∀ (j : Nat) b, (⟨#[48, 49, 50, 51, 52, 53, 54, 55, 56, 57]⟩ : ByteArray).data.toList[j]? = some b → b.toNat < 128 := fun j b h => by
  have h1 : b ∈ ([48, 49, 50, 51, 52, 53, 54, 55, 56, 57] : List UInt8) := List.mem_of_getElem? h
  have h2 : ∀ b ∈ ([48, 49, 50, 51, 52, 53, 54, 55, 56, 57] : List UInt8), b.toNat < 128 := by decide
  exact h2 b h1
theorem trim_dec (s : ByteArray) (w : World) (hs : s.size ≤ 9223372036854775807) :
    Calls Tryz.prog 171 #[.string s, .string ⟨#[48, 49, 50, 51, 52, 53, 54, 55, 56, 57]⟩] w fun e w' => e = .returned (.string ⟨(Lib.trimS s.data.toList [48, 49, 50, 51, 52, 53, 54, 55, 56, 57]).toArray⟩) ∧ Below w.heap.size w w' :=
  Any.strings_Trim_laid Tryz.lays160 (by kernel_rfl) s ⟨#[48, 49, 50, 51, 52, 53, 54, 55, 56, 57]⟩ w hs (by show 10 < _; omega) dec_ascii
theorem wpList_bytes {P : Program} (w : World) {ops : Array Oper} {rest : List Oper} {o : Oper} {a : Act} {Q : Exit → Act → World → Prop}
    (hg : o.guard = none) (x : Operand) (src dst e : TypeId) (hop : o.op = Op.convert src dst x) (s : ByteArray) (hx : a.eval x = .string s) (hs : P.underlying src = some .string) (hd : P.underlying dst = some (.slice e)) (he : P.underlying e = some (.int .u8))
    (hK : ∀ w' c, s.size ≤ c → (∀ j, j < s.size → w'.cell? ⟨w.heap.size, j, none⟩ = some (.int .u8 ((s.data.toList.getD j 0).toNat : Nat))) → Below w.heap.size w w' → wpList P ops Q rest (a.put o.dst (.slice (some ⟨w.heap.size, 0, none⟩) s.size c)) w') :
    wpList P ops Q (o :: rest) a w := by
  refine wpList_plain hg fun K hK' => ?_
  have hrun := run_bytes_of_string (P := P) w src dst e s hs hd he
  unfold Oper.wp
  simp [execOp, hop, hx, hrun, Result.andThen]
  refine hK' _ _ (hK _ _ (grownCap_ge w s.size 0 e) (fun j hj => ?_) ((Below.refl _ _).drew.alloc (Nat.le_refl _) _))
  have h1 : (w.drew.alloc (.cells (bytesRow s (grownCap w s.size 0 e)) e ((bytesRow s (grownCap w s.size 0 e)).size, (bytesRow s (grownCap w s.size 0 e)).size + 1))).heap[w.heap.size]? = some (.cells (bytesRow s (grownCap w s.size 0 e)) e ((bytesRow s (grownCap w s.size 0 e)).size, (bytesRow s (grownCap w s.size 0 e)).size + 1)) := by
    show (w.heap.push _)[w.heap.size]? = _
    simp
  rw [cell_of_row _ _ j _ _ _ h1]
  have hj' : j < s.data.size := hj
  unfold bytesRow
  rw [Array.getElem?_append_left (by simpa using hj'), Array.getElem?_map, Array.getElem?_eq_getElem hj']
  simp
  rw [Array.getElem?_eq_getElem hj']
  rfl
theorem ext_list {X : ByteArray} {Q : Nat} : (X.extract 0 Q).data.toList = X.data.toList.take Q := by
  rw [← ByteArray.toList_eq, Lib.extract_toList]; simp
theorem ext_size {X : ByteArray} {Q : Nat} (h : Q ≤ X.size) : (X.extract 0 Q).size = Q := by
  have : (X.extract 0 Q).size = (X.extract 0 Q).data.toList.length := Array.length_toList.symm
  rw [this, ext_list, List.length_take]
  exact Nat.min_eq_left h
theorem ext_drop {X : ByteArray} {Q : Nat} : (X.extract Q X.size).data.toList = X.data.toList.drop Q := by
  rw [← ByteArray.toList_eq, Lib.extract_toList, List.take_of_length_le (by rw [List.length_drop, Array.length_toList]; exact Nat.le_refl _)]
theorem ext_drop_size {X : ByteArray} {Q : Nat} : (X.extract Q X.size).size = X.size - Q := by
  have : (X.extract Q X.size).size = (X.extract Q X.size).data.toList.length := Array.length_toList.symm
  rw [this, ext_drop, List.length_drop, Array.length_toList]
  rfl
theorem trimS_all {l cs : List UInt8} (h : ∀ c ∈ l, c ∈ cs) : Lib.trimS l cs = [] := by
  have h1 : Lib.trimRightS l cs = [] := by
    unfold Lib.trimRightS
    have h2 : ∀ (k : List UInt8), (∀ c ∈ k, c ∈ cs) → k.dropWhile (cs.contains ·) = [] := by
      intro k
      induction k with
      | nil => intro _; rfl
      | cons c k ih =>
        intro hk
        have : cs.contains c = true := by simpa using hk c (by simp)
        rw [List.dropWhile_cons, this]
        exact ih fun x hx => hk x (by simp [hx])
    rw [h2 _ (fun c hc => h c (by simpa using hc))]
    rfl
  unfold Lib.trimS
  rw [h1]; rfl
theorem isDig_mem {c : UInt8} (h : N.isDig c) : c ∈ [48, 49, 50, 51, 52, 53, 54, 55, 56, 57] := by
  have h1 : ∀ n : Fin 58, 48 ≤ n.val → UInt8.ofNat n.val ∈ ([48, 49, 50, 51, 52, 53, 54, 55, 56, 57] : List UInt8) := by decide
  have h2 := h1 ⟨c.toNat, by have := h.2; omega⟩ h.1
  simpa using h2
set_option maxRecDepth 100000 in
set_option maxHeartbeats 2000000 in
theorem parse_ok (w : World) (S : ByteArray) (hs : S.size ≤ 1099511627776) (hok : N.okTxt S.data.toList) :
    Calls Tryz.prog 159 #[.string S] w fun e w' => ∃ g n' c', e = .returned (.tuple #[.slice (some ⟨g, 0, none⟩) n' c', .int .i64 0]) ∧ Own w' w.heap.size g n' c' (N.ofN (N.val S.data.toList)) ∧ Below w.heap.size w w' := by
  obtain ⟨i0, hi, iz0, iz1, iz2⟩ := info_parts info_u32
  have hS0 : 0 < S.size := by
    rcases Nat.eq_zero_or_pos S.size with h | h
    · exact absurd (List.eq_nil_of_length_eq_zero (by simpa using h)) hok.1
    · exact h
  have htr : Lib.trimS S.data.toList [48, 49, 50, 51, 52, 53, 54, 55, 56, 57] = [] := trimS_all fun c hc => isDig_mem (hok.2.1 c hc)
  have HTR := Lib.hid htr
  clear htr
  go_enter Tryz.func159, Tryz.ntmps159
  have hne : S.toList.isEmpty = false := by
    rw [ByteArray.toList_eq]
    cases h : S.data.toList with
    | nil => exact absurd h hok.1
    | cons _ _ => rfl
  have hcond : (S.size ≤ 1 ∧ ∀ h : 0 < S.size, True) ∨ (1 < S.size ∧ (((S[0]'hS0).toNat : Int) == 48) = false) := by
    rcases Nat.lt_or_ge 1 S.size with h | h
    · refine .inr ⟨h, ?_⟩
      have h1 : S.data.toList.head? ≠ some 48 := fun e => by
        have h2 : S.data.toList.length = 1 := hok.2.2 e
        have h3 : S.data.toList.length = S.size := rfl
        omega
      have h2 : S.data.toList.head? = some (S[0]'hS0) := by
        rw [List.head?_eq_getElem?, Array.getElem?_toList]
        exact Array.getElem?_eq_getElem hS0
      rw [h2] at h1
      have h3 : (S[0]'hS0).toNat ≠ 48 := fun e => h1 (congrArg some (UInt8.toNat_inj.1 e))
      simp; omega
    · exact .inl ⟨h, fun _ => trivial⟩
  rcases hcond with ⟨hsz, _⟩ | ⟨hsz, hd0⟩
  all_goals
    have hsz' : (0 : Int) < S.size := by omega
    go_wp2_with fail
    refine (trim_dec S _ (by omega)).mono ?_
    rintro e w1 ⟨rfl, hb1⟩
    rw [HTR.out]
    go_wp2_with fail
    clear hne hsz hsz'
    try clear hd0
    go_loopg [0, 4] S.size (fun gk v0 v4 wr => ∃ (p : Nat) (X : ByteArray) (g n c : Nat), v0 = .string X ∧ X.data.toList = S.data.toList.drop p ∧ X.size = gk ∧ p + gk = S.size ∧ (p = 0 ∨ gk % 9 = 0) ∧ v4 = .slice (some ⟨g, 0, none⟩) n c ∧ Own wr w.heap.size g n c (N.ofN (N.val (S.data.toList.take p))) ∧ Below w.heap.size w wr ∧ n ≤ p)
    case atStart => exact ⟨0, S, _, _, _, rfl, rfl, rfl, by omega, .inl rfl, rfl, (Own.empty w1).mono hb1.size, hb1.alloc hb1.size _, by omega⟩
    case round =>
      obtain ⟨G, rfl⟩ : ∃ G : Nat, G = gk := ⟨_, rfl⟩
      obtain ⟨p, X, g, n, c, rfl, hX, hXs, hpG, hmul, rfl, hown, hbw, hnp⟩ := hrel
      obtain ⟨wo, rfl⟩ : ∃ wo : World, wo = wr := ⟨_, rfl⟩
      have HX := Lib.hid hX
      have HXs := Lib.hid hXs
      have HPG := Lib.hid hpG
      clear hX hXs hpG
      by_cases hG : G = 0
      · have hX0 : X.size = 0 := by have := HXs.out; omega
        have hp : p = S.size := by have := HPG.out; omega
        have HP := Lib.hid hp
        clear hp hmul hnp
        have HG0 := Lib.hid hG
        clear hG
        go_wp2_with fail
        go_ret2
        have e : S.data.toList.take p = S.data.toList := List.take_of_length_le (by rw [HP.out, Array.length_toList]; exact Nat.le_refl _)
        rw [e] at hown
        exact ⟨_, _, _, rfl, hown, hbw⟩
      · obtain ⟨Q, hQ⟩ : ∃ Q : Nat, ((X.size : Int) - 1) % 9 + 1 = (Q : Int) := ⟨(X.size - 1) % 9 + 1, by have := HXs.out; omega⟩
        have hXp : (0 : Int) < X.size := by have := HXs.out; omega
        have hXle : X.size ≤ 1099511627776 := by have := HXs.out; have := HPG.out; omega
        have hQ1 : Q ≤ X.size := by omega
        have hQ2 : Q ≤ 9 := by omega
        have hQ3 : 1 ≤ Q := by omega
        go_wp2_with (with_reducible refine wpList_bytes _ rfl (.tmp 39) 9 71 5 rfl _ rfl Tryz.underlying9 Tryz.underlying71 Tryz.underlying5 ?_; intro w2 cb hcb hbytes hb2)
        obtain ⟨C, hC⟩ : ∃ C, C = X.data.toList.take Q := ⟨_, rfl⟩
        have hCl : C.length = Q := by rw [hC, List.length_take]; exact Nat.min_eq_left hQ1
        have hCd : ∀ ch ∈ C, N.isDig ch := fun ch hch => by
          rw [hC, HX.out] at hch
          exact hok.2.1 ch (List.mem_of_mem_drop (List.mem_of_mem_take hch))
        have hby : ∀ j, j < Q → w2.cell? ⟨wo.heap.size, j, none⟩ = some (.int .u8 ((C.getD j 0).toNat : Nat)) := fun j hj => by
          have h1 := hbytes j (by rw [ext_size hQ1]; exact hj)
          rw [ext_list, ← hC] at h1; exact h1
        have HBY := Lib.hid hby
        have HCL := Lib.hid hCl
        have HCD := Lib.hid hCd
        have HC := Lib.hid hC
        clear hby hbytes hCl hCd hC
        go_loopg [6, 42] Q (fun gk v6 v42 wr => ∃ j : Nat, gk + j = Q ∧ v42 = .int .i64 (j : Nat) ∧ v6 = .int .u64 (N.val (C.take j) : Nat) ∧ w2 = wr)
        case atStart => exact ⟨0, rfl, rfl, by simp [N.val], rfl⟩
        case round =>
          obtain ⟨j, hjQ, rfl, rfl, rfl⟩ := hrel
          by_cases hj : j < Q
          · have hcj := HBY.out j hj
            have hmem : C.getD j 0 ∈ C := by
              have : j < C.length := by rw [HCL.out]; exact hj
              simp [List.getD, this]
            have hdig := HCD.out _ hmem
            have htk : C.take (j + 1) = C.take j ++ [C.getD j 0] := by
              have : j < C.length := by rw [HCL.out]; exact hj
              rw [List.take_succ_eq_append_getElem this]; simp [List.getD, this]
            have hvl : N.val (C.take j) < 1000000000 := by
              have h1 := N.val_lt (l := C.take j) (fun c hc => HCD.out c (List.mem_of_mem_take hc))
              have h2 : (C.take j).length ≤ 9 := by rw [List.length_take, HCL.out]; omega
              exact Nat.lt_of_lt_of_le h1 (Nat.pow_le_pow_right (by omega) h2)
            have hvs : N.val (C.take (j + 1)) = 10 * N.val (C.take j) + ((C.getD j 0).toNat - 48) := by rw [htk, N.val_snoc]
            have HVS := Lib.hid hvs
            clear hvs htk hmem
            unfold N.isDig at hdig
            generalize (C.getD j 0).toNat = ch at *
            generalize N.val (C.take j) = vv at *
            obtain ⟨hdig1, hdig2⟩ := hdig
            go_wp2_with fail
            go_roundg (gk - 1)
            case measure => omega
            case rel => exact ⟨j + 1, by omega, by go_num, by rw [HVS.out]; go_num, rfl⟩
          · obtain rfl : j = Q := by omega
            go_wp2_with fail
            have hDl : N.val (C.take j) < 1000000000 := by
              have h1 := N.val_lt (l := C.take j) (fun c hc => HCD.out c (List.mem_of_mem_take hc))
              have h2 : (C.take j).length ≤ 9 := by rw [List.length_take, HCL.out]; omega
              exact Nat.lt_of_lt_of_le h1 (Nat.pow_le_pow_right (by omega) h2)
            have hDC : C.take j = C := List.take_of_length_le (by rw [HCL.out]; exact Nat.le_refl _)
            rw [hDC] at hDl ⊢
            clear hDC
            -- what the text says up to here
            have hstep : N.val (S.data.toList.take (p + j)) = N.val (S.data.toList.take p) * 1000000000 + N.val C := by
              have hXl : X.data.toList.length = X.size := Array.length_toList
              have h1 : S.data.toList.take (p + j) = S.data.toList.take p ++ C := by
                rw [HC.out, HX.out, ← List.take_add]
              rw [h1, N.val_append, HCL.out]
              rcases hmul with h2 | h2
              · subst h2; simp [N.val]
              · have h3 : j = 9 := by have := HXs.out; omega
                rw [h3]
            have HSTEP := Lib.hid hstep
            clear hstep
            obtain ⟨D, hD⟩ : ∃ D, D = N.val C := ⟨_, rfl⟩
            rw [← hD] at hDl ⊢
            have HD := Lib.hid hD
            clear hD
            obtain ⟨V, hV⟩ : ∃ V, V = N.val (S.data.toList.take p) := ⟨_, rfl⟩
            rw [← hV] at hown
            have HV := Lib.hid hV
            clear hV
            have hown2 := hown.below hb2
            have hlV := hown.len
            have HLV := Lib.hid hlV
            clear hlV hown
            obtain ⟨l, hl⟩ : ∃ l, l = N.ofN V := ⟨_, rfl⟩
            rw [← hl] at hown2
            have hll : l.length = n := by rw [hl]; exact HLV.out
            have HLL := Lib.hid hll
            have HL := Lib.hid hl
            clear hl hll
            have hllim := hown2.lim
            have hnb : n ≤ 1099511627776 := by have := HPG.out; omega
            have hrest : (X.extract j X.size).data.toList = S.data.toList.drop (p + j) ∧ (X.extract j X.size).size = G - j ∧ (p + j) + (G - j) = S.size ∧ (p + j = 0 ∨ (G - j) % 9 = 0) := by
              have h1 := HXs.out
              have h2 := HPG.out
              refine ⟨?_, ?_, by omega, .inr (by omega)⟩
              · rw [ext_drop, HX.out, List.drop_drop]
              · rw [ext_drop_size, h1]
            have HREST := Lib.hid hrest
            clear hrest
            go_loopg [6, 55] n (fun gk v6 v55 wq => ∃ k : Nat, gk + k = n ∧ v55 = .int .i64 (k : Nat) ∧ v6 = .int .u64 (N.mC 1000000000 D l k) ∧ Own wq w.heap.size g n c (N.mS 1000000000 D l k) ∧ w2.grownBy wq (some g))
            case atStart => exact ⟨0, rfl, rfl, rfl, hown2, World.grownBy.refl _ _⟩
            case round =>
              obtain ⟨k, hkn, rfl, rfl, hown3, hgr⟩ := hrel
              have hmc := N.mC_lt hllim hDl k
              by_cases hk : k < n
              · have hc1 := hown3.cell k hk
                rw [N.mS_dg_ge _ _ _ _ _ (Nat.le_refl _)] at hc1
                have hf1 := hown3.free k
                have hx := N.dg_lt hllim k
                have hmcs : N.mC 1000000000 D l (k + 1) = (N.mC 1000000000 D l k + N.dg l k * 1000000000) / 4294967296 := rfl
                have hmss : N.mS 1000000000 D l (k + 1) = (N.mS 1000000000 D l k).set k ((N.mC 1000000000 D l k + N.dg l k * 1000000000) % 4294967296) := rfl
                have HMC := Lib.hid hmcs
                have HMS := Lib.hid hmss
                clear hmcs hmss
                go_wp2_with fail
                go_roundg (gk - 1)
                case measure => omega
                case rel => exact ⟨k + 1, by omega, by go_num, by rw [HMC.out]; go_num, by rw [HMS.out]; exact hown3.set' k _ (Nat.mod_lt _ (by omega)) _ (by omega), gb_set hgr _ _⟩
              · obtain rfl : k = n := by omega
                have hz1 := hbw.size
                have hgb := hown3.base_le
                have hbw2 : Below w.heap.size w w2 := hbw.trans (hb2.mono hz1)
                have hz2 := hbw2.size
                have hbw3 : Below w.heap.size w wr := hbw2.grown hgr hz2 (by intro k hk; injection hk with hk; omega)
                have hz3 := hbw3.size
                have hmall := @N.mS_all 1000000000 D V (by omega)
                have hmmore := @N.mS_more 1000000000 D V
                rw [← HL.out, HLL.out] at hmall hmmore
                have HMA := Lib.hid hmall
                have HMM := Lib.hid hmmore
                clear hmall hmmore
                by_cases hm0 : N.mC 1000000000 D l k = 0
                · have ht : decide (0 < N.mC 1000000000 D l k) = false := by simp [hm0]
                  have hfin := HMA.out hm0
                  have HF := Lib.hid hfin
                  have HM0 := Lib.hid hm0
                  clear hfin hm0
                  go_wp2_with fail
                  go_roundg (G - j)
                  case measure => omega
                  case rel =>
                    obtain ⟨r1, r2, r3, r4⟩ := HREST.out
                    refine ⟨p + j, _, g, k, c, rfl, r1, r2, r3, r4, rfl, ?_, hbw3, by omega⟩
                    rw [HSTEP.out, ← HV.out, ← HD.out, ← HF.out]
                    exact hown3
                · have ht : decide (0 < N.mC 1000000000 D l k) = true := by simp; omega
                  have hfin := HMM.out (by omega) (by omega)
                  have HF := Lib.hid hfin
                  clear hfin hm0
                  obtain ⟨m, hm⟩ : ∃ m, m = N.mC 1000000000 D l k := ⟨_, rfl⟩
                  rw [← hm] at hmc ht HF ⊢
                  have HM := Lib.hid hm
                  clear hm
                  have hownA : Own (wr.alloc (.cells #[.int .u32 (m : Nat)] 69)) w.heap.size g k c (N.mS 1000000000 D l k) := hown3.below ((Below.refl _ _).alloc (Nat.le_refl _) _)
                  have hnews : 0 < 1 → ∃ ad, some (⟨wr.heap.size, 0, none⟩ : Addr) = some ad ∧ ∀ j u, (lv [m])[j]? = some u → (wr.alloc (.cells #[.int .u32 (m : Nat)] 69)).cell? (ad.add j) = some u := fun _ => by
                    refine ⟨_, rfl, fun j u hu => ?_⟩
                    rw [Addr.add_lit, cell_of_row _ _ _ _ _ _ (heap_alloc_new wr _)]
                    simpa [lv] using hu
                  have hml : N.Lim [m] := N.Lim.cons (by omega) N.Lim.nil
                  go_wp2_with (at_builtin; refine wpList_append_lim _ rfl (.tmp 75) (.tmp 78) 23 rfl w.heap.size i0 Tryz.underlying23 hi iz0 iz1 iz2 _ _ _ _ rfl hownA _ 1 1 [m] rfl rfl hml hnews (by omega) (by simp; omega) _ rfl _ rfl ?_; intro g4 c4 w4 ho4 hg4)
                  go_roundg (G - j)
                  case measure => omega
                  case rel =>
                    obtain ⟨r1, r2, r3, r4⟩ := HREST.out
                    refine ⟨p + j, _, g4, k + 1, c4, rfl, r1, r2, r3, r4, rfl, ?_, (hbw3.alloc hz3 _).grown hg4 (by simp; omega) (by intro k' hk'; injection hk' with hk'; omega), by omega⟩
                    rw [HSTEP.out, ← HV.out, ← HD.out, ← HF.out]
                    exact ho4
theorem trimS_nil {l cs : List UInt8} (h : Lib.trimS l cs = []) : ∀ c ∈ l, c ∈ cs := by
  have key : ∀ (k : List UInt8), k.dropWhile (cs.contains ·) = [] → ∀ c ∈ k, c ∈ cs := by
    intro k
    induction k with
    | nil => intro _ c hc; cases hc
    | cons a k ih =>
      intro hk c hc
      rw [List.dropWhile_cons] at hk
      by_cases ha : cs.contains a = true
      · rw [if_pos ha] at hk
        rcases List.mem_cons.1 hc with rfl | hc
        · simpa using ha
        · exact ih hk c hc
      · rw [if_neg ha] at hk; cases hk
  unfold Lib.trimS Lib.trimLeftS at h
  have h1 := key _ h
  by_cases h2 : Lib.trimRightS l cs = []
  · unfold Lib.trimRightS at h2
    have h3 := key _ (List.reverse_eq_nil_iff.1 h2)
    exact fun c hc => h3 c (by simpa using hc)
  · -- the last of what is left is not in the set
    exfalso
    unfold Lib.trimRightS at h2 h1
    cases hd : l.reverse.dropWhile (cs.contains ·) with
    | nil => rw [hd] at h2; exact h2 rfl
    | cons a k =>
      have h4 : ∀ (m : List UInt8), m.dropWhile (cs.contains ·) = a :: k → cs.contains a = false := by
        intro m
        induction m with
        | nil => intro h; cases h
        | cons b m ih =>
          intro h
          rw [List.dropWhile_cons] at h
          by_cases hb : cs.contains b = true
          · rw [if_pos hb] at h; exact ih h
          · rw [if_neg hb] at h; injection h with h _; subst h; simpa using hb
      have h5 := h4 _ hd
      have h6 := h1 a (by rw [hd]; simp)
      simp at h5
      exact h5 h6
theorem mem_isDig {c : UInt8} (h : c ∈ ([48, 49, 50, 51, 52, 53, 54, 55, 56, 57] : List UInt8)) : N.isDig c := by
  unfold N.isDig
  revert h; revert c; decide
set_option maxRecDepth 100000 in
set_option maxHeartbeats 1000000 in
theorem parse_bad (w : World) (S : ByteArray) (hs : S.size ≤ 9223372036854775807) (hok : ¬ N.okTxt S.data.toList) :
    Calls Tryz.prog 159 #[.string S] w fun e w' => e = .returned (.tuple #[.slice none 0 0, .int .i64 12]) ∧ Below w.heap.size w w' := by
  by_cases hS0 : S.size = 0
  · have hne : S.toList = [] := by rw [ByteArray.toList_eq]; exact List.eq_nil_of_length_eq_zero (by rw [Array.length_toList]; exact hS0)
    go_enter Tryz.func159, Tryz.ntmps159
    go_wp2_with fail
    go_ret2
    exact ⟨rfl, Below.refl _ _⟩
  · have hp : 0 < S.size := by omega
    have hne0 : S.data.toList ≠ [] := fun h => hS0 (by have := congrArg List.length h; rw [Array.length_toList] at this; exact this)
    have hne : S.toList.isEmpty = false := by
      rw [ByteArray.toList_eq]
      cases h : S.data.toList with
      | nil => exact absurd h hne0
      | cons _ _ => rfl
    have hh : S.data.toList.head? = some (S[0]'hp) := by
      rw [List.head?_eq_getElem?, Array.getElem?_toList]
      exact Array.getElem?_eq_getElem hp
    by_cases h48 : (S[0]'hp).toNat = 48 ∧ 1 < S.size
    · have hd0 : (((S[0]'hp).toNat : Int) == 48) = true := by simp; omega
      have hsz : (1 : Int) < S.size := by omega
      have HH := Lib.hid h48
      clear h48
      go_enter Tryz.func159, Tryz.ntmps159
      go_wp2_with fail
      all_goals go_ret2
      all_goals exact ⟨rfl, Below.refl _ _⟩
    · have htr : Lib.trimS S.data.toList [48, 49, 50, 51, 52, 53, 54, 55, 56, 57] ≠ [] := fun h => by
        refine hok ⟨hne0, fun c hc => mem_isDig (trimS_nil h c hc), fun e => ?_⟩
        rw [hh] at e
        have h1 : (S[0]'hp).toNat = 48 := by injection e with e; rw [e]; rfl
        have h2 : ¬ 1 < S.size := fun h => h48 ⟨h1, h⟩
        rw [Array.length_toList]
        show S.size = 1
        omega
      have hti : (Lib.trimS S.data.toList [48, 49, 50, 51, 52, 53, 54, 55, 56, 57]).isEmpty = false := by
        cases h : Lib.trimS S.data.toList [48, 49, 50, 51, 52, 53, 54, 55, 56, 57] with
        | nil => exact absurd h htr
        | cons _ _ => rfl
      have hcase : (1 < S.size ∧ (((S[0]'hp).toNat : Int) == 48) = false) ∨ S.size ≤ 1 := by
        by_cases h1 : 1 < S.size
        · exact .inl ⟨h1, by
            have h2 : (S[0]'hp).toNat ≠ 48 := fun h => h48 ⟨h, h1⟩
            simp; omega⟩
        · exact .inr (by omega)
      have HH := Lib.hid h48
      clear h48
      clear htr
      rcases hcase with ⟨h1, h2⟩ | h1
      all_goals
        go_enter Tryz.func159, Tryz.ntmps159
        go_wp2_with fail
        refine (trim_dec S _ hs).mono ?_
        rintro e w1 ⟨rfl, hb1⟩
        generalize Lib.trimS S.data.toList [48, 49, 50, 51, 52, 53, 54, 55, 56, 57] = T at *
        go_wp2_with fail
        go_ret2
        exact ⟨rfl, hb1⟩
end Go.Proofs.YthiadenmljbdaaaGreatDoor
end
section
namespace Go.Proofs.YthiadenmljbdaaaGreatDoor
namespace N
theorem ofN_pos {x : Nat} (h : 0 < x) : 0 < (ofN x).length := by
  rcases Nat.eq_zero_or_pos (ofN x).length with h0 | h0
  · have := List.eq_nil_of_length_eq_zero h0
    rw [ofN_eq_nil] at this; omega
  · exact h0
end N
end Go.Proofs.YthiadenmljbdaaaGreatDoor
end
section
namespace Go.Proofs.YthiadenmljbdaaaGreatDoor
open Go.RowKit
def Val (w : World) (v : Value) (K x : Nat) : Prop := ∃ A n c l, v = .slice A n c ∧ Sl w A n c l ∧ N.nv l = x ∧ n ≤ K
def Bar (w : World) (v : Value) (K x : Nat) : Prop := ∃ A n c, v = .slice A n c ∧ Sl w A n c (N.ofN x) ∧ n ≤ K
section
variable {w w' : World} {v : Value} {K x : Nat}
theorem Val.below (h : Val w v K x) (hb : Below w.heap.size w w') : Val w' v K x := by
  obtain ⟨A, n, c, l, e, hs, hx, hn⟩ := h
  exact ⟨A, n, c, l, e, hs.below hb, hx, hn⟩
theorem Bar.below (h : Bar w v K x) (hb : Below w.heap.size w w') : Bar w' v K x := by
  obtain ⟨A, n, c, e, hs, hn⟩ := h
  exact ⟨A, n, c, e, hs.below hb, hn⟩
theorem Bar.val (h : Bar w v K x) : Val w v K x := by
  obtain ⟨A, n, c, e, hs, hn⟩ := h
  exact ⟨A, n, c, _, e, hs, N.nv_ofN x, hn⟩
theorem Val.lt (h : Val w v K x) : x < 4294967296 ^ K := by
  obtain ⟨A, n, c, l, e, hs, hx, hn⟩ := h
  have h1 := N.nv_lt hs.lim
  rw [hs.len, hx] at h1
  exact Nat.lt_of_lt_of_le h1 (Nat.pow_le_pow_right (by omega) hn)
end
structure Out (w : World) (base : Nat) (v : Value) (l : List Nat) : Prop where
  own : w.ownsRow base 69 1 v l.length (lv l)
  lim : N.Lim l
section
variable {w w' : World} {base : Nat} {v : Value} {l : List Nat}
theorem Out.nil (w : World) (base : Nat) : Out w base (.slice none 0 0) [] := ⟨World.ownsRow_nil _ _ _ _, N.Lim.nil⟩
theorem Out.kept (h : Out w base v l) {row : Option Nat} (hg : w.grownBy w' row) (hne : v.ownBlock = none ∨ v.ownBlock ≠ row) : Out w' base v l := ⟨h.own.kept hg hne, h.lim⟩
theorem Out.below (h : Out w base v l) (hb : Below w.heap.size w w') : Out w' base v l :=
  h.kept (gb_of_below hb none) (by cases v.ownBlock <;> simp)
theorem Out.drewN (h : Out w base v l) (k : Nat) : Out (w.drewN k) base v l := ⟨h.own, h.lim⟩
theorem Out.sl (h : Out w base v l) : ∃ A c, v = .slice A l.length c ∧ Sl w A l.length c l := by
  rcases h.own.2 with ⟨rfl, h0⟩ | ⟨g, cap, cur, rfl, _, _, hle, _⟩
  · have := List.eq_nil_of_length_eq_zero h0
    subst this
    exact ⟨none, 0, rfl, Sl.nil _ _ _⟩
  · refine ⟨some ⟨g, 0, none⟩, cap, rfl, rfl, hle, h.lim, fun _ => ⟨g, 0, rfl, fun k hk => ?_⟩⟩
    rw [Nat.zero_add, h.own.cellAt k (by omega), lv_get l k hk]
end
theorem byte_at {S : ByteArray} {i : Nat} (h : i < S.size) : S.data.toList[i]? = some (S[i]'h) := by
  rw [Array.getElem?_toList]; exact Array.getElem?_eq_getElem h
theorem not_empty {S : ByteArray} (h : 0 < S.size) : S.toList.isEmpty = false ∧ S.toList ≠ [] := by
  have h1 : S.toList ≠ [] := by
    rw [ByteArray.toList_eq]
    intro e
    have := congrArg List.length e
    rw [Array.length_toList] at this
    exact absurd this (by show ¬ S.size = 0; omega)
  refine ⟨?_, h1⟩
  cases hh : S.toList with
  | nil => exact absurd hh h1
  | cons _ _ => rfl
theorem size_list (S : ByteArray) : S.data.toList.length = S.size := Array.length_toList
end Go.Proofs.YthiadenmljbdaaaGreatDoor
end
